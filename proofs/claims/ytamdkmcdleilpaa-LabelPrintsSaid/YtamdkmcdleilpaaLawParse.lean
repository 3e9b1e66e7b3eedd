/-
  LabelParses, LabelPrints: the walks through the statements.
-/
import Derived.Test.YtamdkmcdleilpaaRefParse
import Derived.Test.YtamdkmcdleilpaaRefKey
import Derived.Test.YtamdkmcdleilpaaLawApart4
namespace Go.Proofs.Ytamdkmcdleilpaa
open Go.RowKit

theorem body_low (ls : List Lab) : ls.length + wt ls ≤ (bodyL ls).length := by
  have h : ∀ ls : List Lab, 3 * ls.length + wt ls ≤ lens (ls.map partOf) := by
    intro ls
    induction ls with
    | nil => simp [lens, wt]
    | cons x r ih =>
      have h := quoteL_len0 x.2
      have h2 := (escL_len x.2).1
      have e : lens ((x :: r).map partOf) = (partOf x).length + lens (r.map partOf) := by simp [lens]
      have e2 : wt (x :: r) = x.1.length + x.2.length + wt r := by simp [wt]
      have e3 : (partOf x).length = x.1.length + (quoteL x.2).length + 1 := by simp [partOf]; omega
      have e4 : (quoteL x.2).length = (escL x.2).length + 2 := by simp [quoteL]
      rw [e, e2, e3]; simp only [List.length_cons]; omega
  have h1 := h ls
  cases ls with
  | nil => simp [bodyL, joinB, wt]
  | cons x r =>
    unfold bodyL
    rw [List.map_cons, joinB_len]
    have e : lens ((x :: r).map partOf) = (partOf x).length + lens (r.map partOf) := by simp [lens]
    rw [e] at h1
    simp only [List.length_cons, List.length_map] at *
    omega
theorem parsed_ex (s : Bytes) : ∃ o, ParsedAs s o := by
  by_cases h : ∃ ls, chkL ls = true ∧ printL (bodyL ls) true = s
  · obtain ⟨ls, h⟩ := h; exact ⟨some ls, h⟩
  · exact ⟨none, fun ls h1 h2 => h ⟨ls, h1, h2⟩⟩
theorem parsed_nil : ParsedAs [] none := parsed_open (by decide)

def GotL (w0 : World) (l : List (World → Prop)) (o : Option (List Lab)) (e : Ending) (w' : World) : Prop :=
  ∃ v, e = .returned (.tuple #[v, .int .i64 (errF o)]) ∧ Hid (St w0 w' ((fun w => Labels w v (o.getD [])) :: l))
theorem gotL_of {w0 w w' : World} {l : List (World → Prop)} {s : Bytes} {o : Option (List Lab)} {e : Ending} (HS : Hid (St w0 w l)) (hp : Hid (ParsedAs s o)) (h : ParsePost s w e w') : GotL w0 l o e w' := by
  obtain ⟨o', v, he, h1, h2, h3⟩ := h
  rw [h1.uniq hp.out] at he h2
  exact ⟨v, he, Lib.hid ((HS.out.step h3).add _ (fun w' hb => h2.below hb))⟩
theorem parse_h {w0 w : World} {l : List (World → Prop)} {s : Bytes} {o : Option (List Lab)} (HS : Hid (St w0 w l)) (hs : s.length ≤ 100000) (hp : Hid (ParsedAs s o)) :
    Calls Try.prog 41 #[.string (bs s)] w (GotL w0 l o) :=
  (parse_any s w (by omega)).mono fun _ _ h => gotL_of HS hp h
theorem refParse_h {w0 w : World} {l : List (World → Prop)} {s : Bytes} {o : Option (List Lab)} (HS : Hid (St w0 w l)) (hs : s.length ≤ 100000) (hp : Hid (ParsedAs s o)) :
    Calls Try.prog 42 #[.string (bs s)] w (GotL w0 l o) :=
  (refParse_any s w hs).mono fun _ _ h => gotL_of HS hp h
theorem refKey_h {w0 w : World} {l : List (World → Prop)} {v : Value} {ls : List Lab} {s : Bytes} {b : Bool} (HS : Hid (St w0 w l)) (hv : Labels w v ls) (h : Hid (chkL ls = b)) (h2 : Hid (printK (keyL ls) b = s)) :
    Calls Try.prog 43 #[v] w fun e w' => e = .returned (.tuple #[.string (bs s), .int .i64 (errL b)]) ∧ Hid (St w0 w' l) := by
  rw [← h2.out, ← h.out]
  exact (refKey_any v ls w hv).mono fun _ _ ⟨he, h2⟩ => ⟨he, Lib.hid (HS.out.step h2)⟩
theorem check_h {w0 w : World} {l : List (World → Prop)} {v : Value} {ls : List Lab} {b : Bool} (HS : Hid (St w0 w l)) (hv : Labels w v ls) (h : Hid (chkL ls = b)) :
    Calls Try.prog 33 #[v] w fun e w' => e = .returned (.int .i64 (errL b)) ∧ Hid (St w0 w' l) := by
  rw [← h.out]
  exact (check_any v ls w hv).mono fun _ _ ⟨he, h2⟩ => ⟨he, Lib.hid (HS.out.step h2)⟩

set_option maxRecDepth 100000 in
set_option maxHeartbeats 4000000 in
theorem parses_at (s t : Bytes) (w : World) (o : Option (List Lab)) (b : Bool) (hs : s.length ≤ 2048) (HP : Hid (ParsedAs s o)) (HL : Hid ((o.getD []).length + wt (o.getD []) ≤ 2048))
    (HB : Hid (chkL (o.getD []) = b)) (HT : Hid (printL (bodyL (o.getD [])) b = t)) (HE : Hid (errF o = 11 ∨ (errF o = 0 ∧ b = true ∧ t = s))) :
    Calls Try.prog 12 #[.string (bs s)] w fun e w' => e = .returned (.bool true) ∧ Below w.heap.size w w' := by
  have HS0 := Lib.hid (St.start w)
  have HP0 := Lib.hid parsed_nil
  have HQ := Lib.hid (show ((o.getD []) == (o.getD [])) = true by simp)
  have HE0 := Lib.hid (show errF none = 11 from rfl)
  generalize hgo : o.getD [] = ls at *
  have HGO := Lib.hid hgo
  clear hgo
  go_enter Try.func12, Try.ntmps12
  go_wp2_with fail
  refine (parse_h HS0 (by omega) HP).mono ?_
  rintro e w1 ⟨v1, rfl, HS1⟩
  go_wp2_with fail
  refine (refParse_h HS1 (by omega) HP).mono ?_
  rintro e w2 ⟨v2, rfl, HS2⟩
  go_wp2_with fail
  refine (parse_h HS2 (by simp) HP0).mono ?_
  rintro e w3 ⟨v3, rfl, HS3⟩
  rw [HE0.out]
  rw [HGO.out] at HS3
  rcases HE.out with h | ⟨h, hb, ht⟩
  · rw [h]
    clear h
    go_wp2_with fail
    refine (same_h HS3 (HS3.out.get 2 rfl) (HS3.out.get 1 rfl) HQ).mono ?_
    rintro e w4 ⟨rfl, HS4⟩
    go_wp2_with fail
    refine (print_h HS4 (HS4.out.get 2 rfl) HL.out HB HT).mono ?_
    rintro e w5 ⟨rfl, HS5⟩
    go_wp2_with fail
    go_ret
    exact ⟨rfl, HS5.out.bel⟩
  · rw [h]
    subst hb ht
    clear h
    go_wp2_with fail
    refine (same_h HS3 (HS3.out.get 2 rfl) (HS3.out.get 1 rfl) HQ).mono ?_
    rintro e w4 ⟨rfl, HS4⟩
    go_wp2_with fail
    refine (print_h HS4 (HS4.out.get 2 rfl) HL.out HB HT).mono ?_
    rintro e w5 ⟨rfl, HS5⟩
    rw [show errL true = 0 from rfl]
    go_wp2_with fail
    go_ret
    exact ⟨rfl, HS5.out.bel⟩

set_option maxRecDepth 100000 in
theorem parses_walk (s : Bytes) (w : World) :
    Calls Try.prog 12 #[.string (bs s)] w fun e w' => e = .returned (.bool true) ∧ Below w.heap.size w w' := by
  by_cases hs : s.length ≤ 2048
  · obtain ⟨o, ho⟩ := parsed_ex s
    refine parses_at s _ w o _ hs (Lib.hid ho) ?_ (Lib.hid rfl) (Lib.hid rfl) ?_
    · match o, ho with
      | none, _ => exact Lib.hid (by simp [wt])
      | some ls, ⟨h1, h2⟩ =>
        refine Lib.hid ?_
        have h3 := body_low ls
        have h4 := congrArg List.length h2
        rw [printT] at h4
        simp at h4
        show ls.length + wt ls ≤ 2048
        omega
    · match o, ho with
      | none, _ => exact Lib.hid (.inl rfl)
      | some ls, ⟨h1, h2⟩ => exact Lib.hid (.inr ⟨rfl, h1, by show printL (bodyL ls) (chkL ls) = s; rw [h1, h2]⟩)
  · go_enter Try.func12, Try.ntmps12
    go_wp2_with fail
    go_ret
    exact ⟨rfl, Below.refl _ _⟩

set_option maxRecDepth 100000 in
set_option maxHeartbeats 4000000 in
theorem prints_at (v : Value) (xs : List Lab) (s k : Bytes) (w : World) (b : Bool) (HV : Hid (St w w [fun w => Labels w v xs])) (HB : Hid (chkL xs = b))
    (HS : Hid (printL (bodyL xs) b = s)) (HK : Hid (printK (keyL xs) b = k)) (HP : Hid (b = true → ParsedAs s (some xs))) (HN : Hid (b = false → s = [] ∧ k = [])) (HL : Hid (b = true → 2 ≤ s.length))
    (HLs : Hid (xs.length + wt xs ≤ 2048 → s.length ≤ 100000)) :
    Calls Try.prog 13 #[v] w fun e w' => e = .returned (.bool true) ∧ Below w.heap.size w w' := by
  have HQ := Lib.hid (show (xs == xs) = true by simp)
  have HE0 := Lib.hid (show errF (some xs) = 0 from rfl)
  have HG := Lib.hid (show (some xs).getD [] = xs from rfl)
  go_enter Try.func13, Try.ntmps13
  go_wp2_with fail
  refine (heavy4_h HV (HV.out.get 0 rfl)).mono ?_
  rintro e w1 ⟨b1, rfl, Ha, HV1⟩
  cases b1 with
  | true =>
    go_wp2_with fail
    go_ret
    exact ⟨rfl, HV1.out.bel⟩
  | false =>
    have ha := Ha.out rfl
    have hls := HLs.out ha
    go_wp2_with fail
    refine (print_h HV1 (HV1.out.get 0 rfl) ha HB HS).mono ?_
    rintro e w2 ⟨rfl, HV2⟩
    go_wp2_with fail
    refine (refPrint_h HV2 (HV2.out.get 0 rfl) ha HB HS).mono ?_
    rintro e w3 ⟨rfl, HV3⟩
    go_wp2_with fail
    refine (key_h HV3 (HV3.out.get 0 rfl) HB HK).mono ?_
    rintro e w4 ⟨rfl, HV4⟩
    go_wp2_with fail
    refine (refKey_h HV4 (HV4.out.get 0 rfl) HB HK).mono ?_
    rintro e w5 ⟨rfl, HV5⟩
    cases b with
    | false =>
      obtain ⟨rfl, rfl⟩ := HN.out rfl
      rw [show errL false = 40 from rfl]
      go_wp2_with fail
      refine (check_h HV5 (HV5.out.get 0 rfl) HB).mono ?_
      rintro e w6 ⟨rfl, HV6⟩
      rw [show errL false = 40 from rfl]
      go_wp2_with fail
      go_ret
      exact ⟨rfl, HV6.out.bel⟩
    | true =>
      have HP1 := Lib.hid (HP.out rfl)
      have hd2 : decide ((2 : Int) ≤ (s.length : Int)) = true := by
        have := HL.out rfl
        simp; omega
      rw [show errL true = 0 from rfl]
      go_wp2_with fail
      refine (check_h HV5 (HV5.out.get 0 rfl) HB).mono ?_
      rintro e w6 ⟨rfl, HV6⟩
      rw [show errL true = 0 from rfl]
      go_wp2_with fail
      refine (parse_h HV6 hls HP1).mono ?_
      rintro e w7 ⟨v7, rfl, HV7⟩
      rw [HE0.out]
      rw [HG.out] at HV7
      go_wp2_with fail
      refine (same_h HV7 (HV7.out.get 0 rfl) (HV7.out.get 1 rfl) HQ).mono ?_
      rintro e w8 ⟨rfl, HV8⟩
      go_wp2_with fail
      go_ret
      exact ⟨rfl, HV8.out.bel⟩

theorem prints_walk (v : Value) (xs : List Lab) (w : World) (hv : Labels w v xs) :
    Calls Try.prog 13 #[v] w fun e w' => e = .returned (.bool true) ∧ Below w.heap.size w w' := by
  refine prints_at v xs _ _ w _ (Lib.hid ((St.start w).add (fun w => Labels w v xs) (fun _ hb => hv.below hb))) (Lib.hid rfl) (Lib.hid rfl) (Lib.hid rfl) (Lib.hid fun h => ?_) (Lib.hid fun h => ?_) (Lib.hid fun h => ?_) (Lib.hid fun h => ?_)
  · rw [h]; exact ⟨h, rfl⟩
  · rw [h]; exact ⟨rfl, rfl⟩
  · rw [h, printT]; simp
  · have := bodyL_len xs
    cases chkL xs
    · simp [printL]
    · rw [printT]; simp; omega

end Go.Proofs.Ytamdkmcdleilpaa
