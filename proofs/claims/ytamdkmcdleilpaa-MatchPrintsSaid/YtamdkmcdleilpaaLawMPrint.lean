/-
  MatchPrints, MatchParses: the walks through the statements.
-/
import Derived.Test.YtamdkmcdleilpaaMSame
namespace Go.Proofs.Ytamdkmcdleilpaa
open Go.RowKit

theorem wm_low (ms : List Mat) (hc : chkM ms = true) : ms.length + wm ms ≤ (bodyM ms).length := by
  have hq : ∀ l : List Bytes, sl l + 2 * l.length ≤ lens (l.map quoteL) := by
    intro l
    induction l with
    | nil => simp [sl, lens]
    | cons x r ih =>
      have h2 := (escL_len x).1
      have e4 : (quoteL x).length = (escL x).length + 2 := by simp [quoteL]
      have e1 : lens ((x :: r).map quoteL) = (quoteL x).length + lens (r.map quoteL) := by simp [lens]
      have e2 : sl (x :: r) = x.length + sl r := by simp [sl]
      rw [e1, e2, e4]; simp only [List.length_cons]; omega
  have hj : ∀ (c : UInt8) (l : List Bytes), lens l ≤ (joinB [c] l).length := by
    intro c l
    cases l with
    | nil => simp [lens]
    | cons x r => rw [joinB_len]; simp [lens]
  have hp : ∀ m : Mat, okMat m = true → wOf m + 1 ≤ (partM m).length := by
    intro m hm
    have h1 := hq (valsOf m)
    have h2 := hj 124 ((valsOf m).map quoteL)
    have e : (partM m).length = m.n.length + (preK m.k).length + (quotesL (valsOf m)).length + 1 := by simp [partM]; omega
    have h3 : m.x.length + m.ss.length + sl m.ss ≤ sl (valsOf m) + 2 * (valsOf m).length := by
      unfold okMat at hm
      rcases ok_kind hm with e | e | e | e
      · rw [okM_lo (by omega)] at hm; simp only [Bool.and_eq_true, decide_eq_true_eq] at hm; rw [List.length_eq_zero_iff.1 hm.2.2]; simp [valsOf, e, sl]
      · rw [okM_lo (by omega)] at hm; simp only [Bool.and_eq_true, decide_eq_true_eq] at hm; rw [List.length_eq_zero_iff.1 hm.2.2]; simp [valsOf, e, sl]
      · rw [okM_lo (by omega)] at hm; simp only [Bool.and_eq_true, decide_eq_true_eq] at hm; rw [List.length_eq_zero_iff.1 hm.2.2]; simp [valsOf, e, sl]
      · rw [e, okM_3] at hm
        simp only [Bool.and_eq_true, beq_iff_eq] at hm
        have hv : valsOf m = m.ss := by simp [valsOf, e]
        rw [hv, hm.2.1.1.1]; simp; omega
    have e5 : (quotesL (valsOf m)).length = (joinB [124] ((valsOf m).map quoteL)).length := rfl
    rw [e]; unfold wOf; omega
  have hl : ∀ ms : List Mat, (∀ m ∈ ms, okMat m = true) → ms.length + wm ms ≤ lens (ms.map partM) := by
    intro ms
    induction ms with
    | nil => intro _; simp [wm, lens]
    | cons m r ih =>
      intro h
      have h1 := hp m (h m (List.mem_cons_self ..))
      have h2 := ih fun z hz => h z (List.mem_cons_of_mem _ hz)
      have e1 : lens ((m :: r).map partM) = (partM m).length + lens (r.map partM) := by simp [lens]
      have e2 : wm (m :: r) = wOf m + wm r := by simp [wm, wOf]
      rw [e1, e2]; simp only [List.length_cons]; omega
  have h1 := hl ms fun m hm => chk_ok hc hm
  have h2 := hj 44 (ms.map partM)
  unfold bodyM; omega
theorem parsedM_ex (s : Bytes) : ∃ o, ParsedM s o := by
  by_cases h : ∃ ms, chkM ms = true ∧ printP (bodyM ms) true = s
  · obtain ⟨ms, h⟩ := h; exact ⟨some ms, h⟩
  · exact ⟨none, fun ms h1 h2 => h ⟨ms, h1, h2⟩⟩
theorem parsedM_nil : ParsedM [] none := parsedM_open (by decide)

def GotM (w0 : World) (l : List (World → Prop)) (o : Option (List Mat)) (e : Ending) (w' : World) : Prop :=
  ∃ v, e = .returned (.tuple #[v, .int .i64 (errP o)]) ∧ Hid (St w0 w' ((fun w => Matchers w v (o.getD [])) :: l))
theorem gotM_of {w0 w w' : World} {l : List (World → Prop)} {s : Bytes} {o : Option (List Mat)} {e : Ending} (HS : Hid (St w0 w l)) (hp : Hid (ParsedM s o)) (h : MParsePost s w e w') : GotM w0 l o e w' := by
  obtain ⟨o', v, he, h1, h2, h3⟩ := h
  rw [h1.un hp.out] at he h2
  exact ⟨v, he, Lib.hid ((HS.out.step h3).add _ (fun w' hb => h2.below hb))⟩
theorem mparse_h {w0 w : World} {l : List (World → Prop)} {s : Bytes} {o : Option (List Mat)} (HS : Hid (St w0 w l)) (hs : s.length ≤ 100000) (hp : Hid (ParsedM s o)) :
    Calls Try.prog 46 #[.string (bs s)] w (GotM w0 l o) :=
  (mparse_any s w hs).mono fun _ _ h => gotM_of HS hp h
theorem refMParse_h {w0 w : World} {l : List (World → Prop)} {s : Bytes} {o : Option (List Mat)} (HS : Hid (St w0 w l)) (hs : s.length ≤ 100000) (hp : Hid (ParsedM s o)) :
    Calls Try.prog 48 #[.string (bs s)] w (GotM w0 l o) :=
  (refMParse_any s w hs).mono fun _ _ h => gotM_of HS hp h
theorem mprint_h {w0 w : World} {l : List (World → Prop)} {v : Value} {ms : List Mat} {s : Bytes} {b : Bool} (HS : Hid (St w0 w l)) (hv : Matchers w v ms) (hw : ms.length + wm ms ≤ 2048) (h : Hid (chkM ms = b)) (h2 : Hid (printP (bodyM ms) b = s)) :
    Calls Try.prog 44 #[v] w fun e w' => e = .returned (.tuple #[.string (bs s), .int .i64 (errM b)]) ∧ Hid (St w0 w' l) := by
  rw [← h2.out, ← h.out]
  exact (mprint_any v ms w hv (by omega)).mono fun _ _ ⟨he, h2⟩ => ⟨he, Lib.hid (HS.out.step h2)⟩
theorem refMPrint_h {w0 w : World} {l : List (World → Prop)} {v : Value} {ms : List Mat} {s : Bytes} {b : Bool} (HS : Hid (St w0 w l)) (hv : Matchers w v ms) (hw : ms.length + wm ms ≤ 2048) (h : Hid (chkM ms = b)) (h2 : Hid (printP (bodyM ms) b = s)) :
    Calls Try.prog 45 #[v] w fun e w' => e = .returned (.tuple #[.string (bs s), .int .i64 (errM b)]) ∧ Hid (St w0 w' l) := by
  rw [← h2.out, ← h.out]
  exact (refMPrint_any v ms w hv (by omega)).mono fun _ _ ⟨he, h2⟩ => ⟨he, Lib.hid (HS.out.step h2)⟩
theorem msame_h {w0 w : World} {l : List (World → Prop)} {v u : Value} {ms : List Mat} (HS : Hid (St w0 w l)) (hv : Matchers w v ms) (hu : Matchers w u ms) :
    Calls Try.prog 47 #[v, u] w fun e w' => e = .returned (.bool true) ∧ Hid (St w0 w' l) :=
  (msame_any v u ms w hv hu).mono fun _ _ ⟨he, h2⟩ => ⟨he, Lib.hid (HS.out.step h2)⟩
theorem heavy5_h {w0 w : World} {l : List (World → Prop)} {v : Value} {ms : List Mat} (HS : Hid (St w0 w l)) (hv : Matchers w v ms) :
    Calls Try.prog 28 #[v] w fun e w' => ∃ b, e = .returned (.bool b) ∧ Hid (b = false → ms.length + wm ms ≤ 2048) ∧ Hid (St w0 w' l) :=
  (heavy5_any v ms w hv).mono fun _ _ ⟨b, he, h1, h2⟩ => ⟨b, he, Lib.hid h1, Lib.hid (HS.out.step h2)⟩

set_option maxRecDepth 100000 in
set_option maxHeartbeats 4000000 in
theorem mparses_at (s t : Bytes) (w : World) (o : Option (List Mat)) (b : Bool) (hs : s.length ≤ 2048) (HP : Hid (ParsedM s o)) (HL : Hid ((o.getD []).length + wm (o.getD []) ≤ 2048))
    (HB : Hid (chkM (o.getD []) = b)) (HT : Hid (printP (bodyM (o.getD [])) b = t)) (HE : Hid (errP o = 11 ∨ (errP o = 0 ∧ b = true ∧ t = s))) :
    Calls Try.prog 15 #[.string (bs s)] w fun e w' => e = .returned (.bool true) ∧ Below w.heap.size w w' := by
  have HS0 := Lib.hid (St.start w)
  have HP0 := Lib.hid parsedM_nil
  have HE0 := Lib.hid (show errP none = 11 from rfl)
  generalize hgo : o.getD [] = ls at *
  have HGO := Lib.hid hgo
  clear hgo
  go_enter Try.func15, Try.ntmps15
  go_wp2_with fail
  refine (mparse_h HS0 (by omega) HP).mono ?_
  rintro e w1 ⟨v1, rfl, HS1⟩
  go_wp2_with fail
  refine (refMParse_h HS1 (by omega) HP).mono ?_
  rintro e w2 ⟨v2, rfl, HS2⟩
  go_wp2_with fail
  refine (mparse_h HS2 (by simp) HP0).mono ?_
  rintro e w3 ⟨v3, rfl, HS3⟩
  rw [HE0.out]
  rw [HGO.out] at HS3
  rcases HE.out with h | ⟨h, hb, ht⟩
  · rw [h]
    clear h
    go_wp2_with fail
    refine (msame_h HS3 (HS3.out.get 2 rfl) (HS3.out.get 1 rfl)).mono ?_
    rintro e w4 ⟨rfl, HS4⟩
    go_wp2_with fail
    refine (mprint_h HS4 (HS4.out.get 2 rfl) HL.out HB HT).mono ?_
    rintro e w5 ⟨rfl, HS5⟩
    go_wp2_with fail
    go_ret
    exact ⟨rfl, HS5.out.bel⟩
  · rw [h]
    subst hb ht
    clear h
    go_wp2_with fail
    refine (msame_h HS3 (HS3.out.get 2 rfl) (HS3.out.get 1 rfl)).mono ?_
    rintro e w4 ⟨rfl, HS4⟩
    go_wp2_with fail
    refine (mprint_h HS4 (HS4.out.get 2 rfl) HL.out HB HT).mono ?_
    rintro e w5 ⟨rfl, HS5⟩
    rw [errM_true]
    go_wp2_with fail
    go_ret
    exact ⟨rfl, HS5.out.bel⟩

set_option maxRecDepth 100000 in
theorem mparses_walk (s : Bytes) (w : World) :
    Calls Try.prog 15 #[.string (bs s)] w fun e w' => e = .returned (.bool true) ∧ Below w.heap.size w w' := by
  by_cases hs : s.length ≤ 2048
  · obtain ⟨o, ho⟩ := parsedM_ex s
    refine mparses_at s _ w o _ hs (Lib.hid ho) ?_ (Lib.hid rfl) (Lib.hid rfl) ?_
    · match o, ho with
      | none, _ => exact Lib.hid (by simp [wm])
      | some ms, ⟨h1, h2⟩ =>
        refine Lib.hid ?_
        have h3 := wm_low ms h1
        have h4 := congrArg List.length h2
        have h5 : (printP (bodyM ms) true).length = (bodyM ms).length + 2 := by simp [printP]
        show ms.length + wm ms ≤ 2048
        omega
    · match o, ho with
      | none, _ => exact Lib.hid (.inl rfl)
      | some ms, ⟨h1, h2⟩ => exact Lib.hid (.inr ⟨rfl, h1, by show printP (bodyM ms) (chkM ms) = s; rw [h1, h2]⟩)
  · go_enter Try.func15, Try.ntmps15
    go_wp2_with fail
    go_ret
    exact ⟨rfl, Below.refl _ _⟩

set_option maxRecDepth 100000 in
set_option maxHeartbeats 4000000 in
theorem mprints_at (v : Value) (xs : List Mat) (s : Bytes) (w : World) (b : Bool) (HV : Hid (St w w [fun w => Matchers w v xs])) (HB : Hid (chkM xs = b))
    (HS : Hid (printP (bodyM xs) b = s)) (HP : Hid (b = true → ParsedM s (some xs))) (HN : Hid (b = false → s = [])) (HL : Hid (b = true → 2 ≤ s.length))
    (HLs : Hid (xs.length + wm xs ≤ 2048 → s.length ≤ 100000)) :
    Calls Try.prog 14 #[v] w fun e w' => e = .returned (.bool true) ∧ Below w.heap.size w w' := by
  have HE0 := Lib.hid (show errP (some xs) = 0 from rfl)
  have HG := Lib.hid (show (some xs).getD [] = xs from rfl)
  go_enter Try.func14, Try.ntmps14
  go_wp2_with fail
  refine (heavy5_h HV (HV.out.get 0 rfl)).mono ?_
  rintro e w1 ⟨b1, rfl, Ha, HV1⟩
  cases b1 with
  | true =>
    go_wp2_with fail
    go_ret
    exact ⟨rfl, HV1.out.bel⟩
  | false =>
    have ha := Ha.out rfl
    have hls := HLs.out ha
    go_wp2_with fail
    refine (mprint_h HV1 (HV1.out.get 0 rfl) ha HB HS).mono ?_
    rintro e w2 ⟨rfl, HV2⟩
    go_wp2_with fail
    refine (refMPrint_h HV2 (HV2.out.get 0 rfl) ha HB HS).mono ?_
    rintro e w3 ⟨rfl, HV3⟩
    cases b with
    | false =>
      have hs := HN.out rfl
      subst hs
      rw [errM_false]
      go_wp2_with fail
      go_ret
      exact ⟨rfl, HV3.out.bel⟩
    | true =>
      have HP1 := Lib.hid (HP.out rfl)
      have hd2 : decide ((2 : Int) ≤ (s.length : Int)) = true := by
        have := HL.out rfl
        simp; omega
      rw [errM_true]
      go_wp2_with fail
      refine (mparse_h HV3 hls HP1).mono ?_
      rintro e w7 ⟨v7, rfl, HV7⟩
      rw [HE0.out]
      rw [HG.out] at HV7
      go_wp2_with fail
      refine (msame_h HV7 (HV7.out.get 0 rfl) (HV7.out.get 1 rfl)).mono ?_
      rintro e w8 ⟨rfl, HV8⟩
      go_wp2_with fail
      go_ret
      exact ⟨rfl, HV8.out.bel⟩

theorem mprints_walk (v : Value) (xs : List Mat) (w : World) (hv : Matchers w v xs) :
    Calls Try.prog 14 #[v] w fun e w' => e = .returned (.bool true) ∧ Below w.heap.size w w' := by
  refine mprints_at v xs _ w _ (Lib.hid ((St.start w).add (fun w => Matchers w v xs) (fun _ hb => hv.below hb))) (Lib.hid rfl) (Lib.hid rfl) (Lib.hid fun h => ?_) (Lib.hid fun h => ?_) (Lib.hid fun h => ?_) (Lib.hid fun h => ?_)
  · rw [h]; exact ⟨h, rfl⟩
  · rw [h]; rfl
  · rw [h]; simp [printP]
  · have := bodyM_len xs
    cases chkM xs
    · simp [printP]
    · simp [printP]; omega

end Go.Proofs.Ytamdkmcdleilpaa
