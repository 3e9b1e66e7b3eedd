/-
  LabelApart: the walk through the statement.
-/
import Derived.Test.YtamdkmcdleilpaaInj
import Derived.Test.YtamdkmcdleilpaaLawOne
import Derived.Test.YtamdkmcdleilpaaPrintAny
namespace Go.Proofs.Ytamdkmcdleilpaa
open Go.RowKit

theorem heavy4_h {w0 w : World} {l : List (World → Prop)} {v : Value} {ls : List Lab} (HS : Hid (St w0 w l)) (hv : Labels w v ls) :
    Calls Try.prog 35 #[v] w fun e w' => ∃ b, e = .returned (.bool b) ∧ Hid (b = false → ls.length + wt ls ≤ 2048) ∧ Hid (St w0 w' l) :=
  (heavy4_any v ls w hv).mono fun _ _ ⟨b, he, h1, h2⟩ => ⟨b, he, Lib.hid h1, Lib.hid (HS.out.step h2)⟩
theorem print_h {w0 w : World} {l : List (World → Prop)} {v : Value} {ls : List Lab} {s : Bytes} {b : Bool} (HS : Hid (St w0 w l)) (hv : Labels w v ls) (hw : ls.length + wt ls ≤ 2048) (h : Hid (chkL ls = b)) (h2 : Hid (printL (bodyL ls) b = s)) :
    Calls Try.prog 32 #[v] w fun e w' => e = .returned (.tuple #[.string (bs s), .int .i64 (errL b)]) ∧ Hid (St w0 w' l) := by
  rw [← h2.out, ← h.out]
  exact (print_any v ls w hv (by omega)).mono fun _ _ ⟨he, h2⟩ => ⟨he, Lib.hid (HS.out.step h2)⟩
theorem refPrint_h {w0 w : World} {l : List (World → Prop)} {v : Value} {ls : List Lab} {s : Bytes} {b : Bool} (HS : Hid (St w0 w l)) (hv : Labels w v ls) (hw : ls.length + wt ls ≤ 2048) (h : Hid (chkL ls = b)) (h2 : Hid (printL (bodyL ls) b = s)) :
    Calls Try.prog 37 #[v] w fun e w' => e = .returned (.tuple #[.string (bs s), .int .i64 (errL b)]) ∧ Hid (St w0 w' l) := by
  rw [← h2.out, ← h.out]
  exact (refPrint_any v ls w hv (by omega)).mono fun _ _ ⟨he, h2⟩ => ⟨he, Lib.hid (HS.out.step h2)⟩
theorem key_h {w0 w : World} {l : List (World → Prop)} {v : Value} {ls : List Lab} {s : Bytes} {b : Bool} (HS : Hid (St w0 w l)) (hv : Labels w v ls) (h : Hid (chkL ls = b)) (h2 : Hid (printK (keyL ls) b = s)) :
    Calls Try.prog 36 #[v] w fun e w' => e = .returned (.tuple #[.string (bs s), .int .i64 (errL b)]) ∧ Hid (St w0 w' l) := by
  rw [← h2.out, ← h.out]
  exact (key_any v ls w hv).mono fun _ _ ⟨he, h2⟩ => ⟨he, Lib.hid (HS.out.step h2)⟩
theorem same_h {w0 w : World} {l : List (World → Prop)} {v u : Value} {ls ms : List Lab} {b : Bool} (HS : Hid (St w0 w l)) (hv : Labels w v ls) (hu : Labels w u ms) (h : Hid ((ls == ms) = b)) :
    Calls Try.prog 38 #[v, u] w fun e w' => e = .returned (.bool b) ∧ Hid (St w0 w' l) := by
  rw [← h.out]
  exact (same_any v u ls ms w hv hu).mono fun _ _ ⟨he, h2⟩ => ⟨he, Lib.hid (HS.out.step h2)⟩
theorem name_h {w0 w : World} {l : List (World → Prop)} {s : Bytes} {b : Bool} (HS : Hid (St w0 w l)) (h : Hid (nameB s = b)) :
    Calls Try.prog 24 #[.string (bs s)] w fun e w' => e = .returned (.bool b) ∧ Hid (St w0 w' l) := by
  rw [← h.out]
  exact (name_any s w).mono fun _ _ ⟨he, h2⟩ => ⟨he, Lib.hid (HS.out.step h2)⟩

set_option maxRecDepth 100000 in
set_option maxHeartbeats 4000000 in
theorem apart4_at (v u : Value) (xs cs : List Lab) (sa sb ka kb : Bytes) (w : World) (ba bb q : Bool) (HV : Hid (St w w [fun w => Labels w v xs, fun w => Labels w u cs]))
    (HA : Hid (chkL xs = ba)) (HB : Hid (chkL cs = bb)) (HQ : Hid ((xs == cs) = q)) (HSA : Hid (printL (bodyL xs) ba = sa)) (HSB : Hid (printL (bodyL cs) bb = sb)) (HKA : Hid (printK (keyL xs) ba = ka)) (HKB : Hid (printK (keyL cs) bb = kb))
    (HP : Hid (ba = true → bb = true → (sa == sb) = q ∧ (ka == kb) = q)) :
    Calls Try.prog 10 #[v, u] w fun e w' => e = .returned (.bool true) ∧ Below w.heap.size w w' := by
  have HN := Lib.hid (show nameB [97] = true by decide)
  go_enter Try.func10, Try.ntmps10
  go_wp2_with fail
  refine (heavy4_h HV (HV.out.get 0 rfl)).mono ?_
  rintro e w1 ⟨b1, rfl, Ha, HV1⟩
  cases b1 with
  | true =>
    go_wp2_with fail
    go_ret
    exact ⟨rfl, HV1.out.bel⟩
  | false =>
    have ha := Ha.out rfl
    go_wp2_with fail
    refine (heavy4_h HV1 (HV1.out.get 1 rfl)).mono ?_
    rintro e w2 ⟨b2, rfl, Hb, HV2⟩
    cases b2 with
    | true =>
      go_wp2_with fail
      go_ret
      exact ⟨rfl, HV2.out.bel⟩
    | false =>
      have hb := Hb.out rfl
      go_wp2_with fail
      refine (print_h HV2 (HV2.out.get 0 rfl) ha HA HSA).mono ?_
      rintro e w3 ⟨rfl, HV3⟩
      go_wp2_with fail
      refine (print_h HV3 (HV3.out.get 1 rfl) hb HB HSB).mono ?_
      rintro e w4 ⟨rfl, HV4⟩
      go_wp2_with fail
      refine (key_h HV4 (HV4.out.get 0 rfl) HA HKA).mono ?_
      rintro e w5 ⟨rfl, HV5⟩
      go_wp2_with fail
      refine (key_h HV5 (HV5.out.get 1 rfl) HB HKB).mono ?_
      rintro e w6 ⟨rfl, HV6⟩
      go_wp2_with fail
      refine (refPrint_h HV6 (HV6.out.get 0 rfl) ha HA HSA).mono ?_
      rintro e w7 ⟨rfl, HV7⟩
      cases ba with
      | false =>
        go_wp2_with fail
        refine (name_h HV7 HN).mono ?_
        rintro e w8 ⟨rfl, HV8⟩
        go_wp2_with fail
        go_ret
        exact ⟨rfl, HV8.out.bel⟩
      | true =>
        cases bb with
        | false =>
          go_wp2_with fail
          refine (name_h HV7 HN).mono ?_
          rintro e w8 ⟨rfl, HV8⟩
          go_wp2_with fail
          go_ret
          exact ⟨rfl, HV8.out.bel⟩
        | true =>
          obtain ⟨hp1, hp2⟩ := HP.out rfl rfl
          go_wp2_with fail
          refine (same_h HV7 (HV7.out.get 0 rfl) (HV7.out.get 1 rfl) HQ).mono ?_
          rintro e w8 ⟨rfl, HV8⟩
          cases q
          all_goals
            (go_wp2_with fail
             go_ret
             exact ⟨rfl, HV8.out.bel⟩)

theorem apart4_walk (v u : Value) (xs cs : List Lab) (w : World) (hv : Labels w v xs) (hu : Labels w u cs) :
    Calls Try.prog 10 #[v, u] w fun e w' => e = .returned (.bool true) ∧ Below w.heap.size w w' :=
  apart4_at v u xs cs _ _ _ _ w _ _ _ (Lib.hid (((St.start w).add (fun w => Labels w u cs) (fun _ hb => hu.below hb)).add (fun w => Labels w v xs) (fun _ hb => hv.below hb)))
    (Lib.hid rfl) (Lib.hid rfl) (Lib.hid rfl) (Lib.hid rfl) (Lib.hid rfl) (Lib.hid rfl) (Lib.hid rfl) (Lib.hid fun h1 h2 => by rw [h1, h2]; exact ⟨print_apart h1 h2, key_apart h1 h2⟩)

end Go.Proofs.Ytamdkmcdleilpaa
