/-
  Plain: where the merge by halves cuts its two lists.
-/
import Derived.Test.YtnjcelilljniaaaTSym2
import Derived.Deep.DeepCutAuto
namespace Go.Proofs.Ytnjcelilljniaaa
open Go.RowKit

theorem sym_cut {L R : List El} (hL : SortedL ltE L) (hR : SortedL ltE R) (k k0 kr h : Nat) (hk : k ≤ L.length) (hkh : k ≤ h) (hkr : h ≤ k + R.length)
    (hlo : k = k0 ∨ (0 < k ∧ ltE (R.getD (h - k) el0) (L.getD (k - 1) el0) = false))
    (hhi : k = kr ∨ ltE (R.getD (h - 1 - k) el0) (L.getD k el0) = true)
    (h0 : k0 = 0 ∨ k0 + R.length = h) (hr : kr = L.length ∨ kr = h) :
    mergeL ltE L R = mergeL ltE (L.take k) (R.take (h - k)) ++ mergeL ltE (L.drop k) (R.drop (h - k)) := by
  conv => lhs; rw [← List.take_append_drop k L, ← List.take_append_drop (h - k) R]
  refine mergeL_split _ _ _ _ (fun x hx y hy => ?_) (fun x hx y hy => ?_)
  · obtain ⟨i, i1, i2, rfl⟩ := take_mem hx
    obtain ⟨j, j1, j2, rfl⟩ := drop_mem hy
    rcases hlo with e | ⟨e1, e2⟩
    · rcases h0 with e0 | e0 <;> exfalso <;> omega
    · exact ltE_weak.neg _ _ _ (ltE_weak.neg _ _ _ (sorted_le hR j1 j2) e2) (sorted_le hL (show i ≤ k - 1 by omega) (by omega))
  · obtain ⟨j, j1, j2, rfl⟩ := take_mem hx
    obtain ⟨i, i1, i2, rfl⟩ := drop_mem hy
    rcases hhi with e | e
    · rcases hr with e0 | e0 <;> exfalso <;> omega
    · have hq : ltE (R.getD j el0) (L.getD k el0) = true := ltE_weak.le_lt (sorted_le hR (show j ≤ h - 1 - k by omega) (by omega)) e
      exact ltE_weak.lt_of_le hq (sorted_le hL i1 i2)

end Go.Proofs.Ytnjcelilljniaaa

/-
  slices.symMergeCmpFunc, whole.
-/
namespace Go.Proofs.Ytnjcelilljniaaa
open Go.RowKit

/-- The search for the cut. -/
def S3Rel (g cap : Nat) (l L R : List El) (a mid s0 r0 : Nat) (w : World) (i j : Value) (wr : World) : Prop :=
  ∃ p q : Nat, i = .int .i64 (p : Nat) ∧ j = .int .i64 (q : Nat) ∧ s0 ≤ p ∧ p ≤ q ∧ q ≤ r0 ∧ (p = s0 ∨ (s0 < p ∧ ltE (R.getD (mid - p) el0) (L.getD (p - 1 - a) el0) = false)) ∧ (q = r0 ∨ ltE (R.getD (mid - 1 - q) el0) (L.getD (q - a) el0) = true) ∧ RowE wr g cap l ∧ w.grownBy wr (some g)
/-- Where the search begins. -/
def S3Beg (L R : List El) (a m b mid : Nat) (w : World) (i j : Value) (wx : World) : Prop :=
  ∃ s0 r0 : Nat, i = .int .i64 (s0 : Nat) ∧ j = .int .i64 (r0 : Nat) ∧ a ≤ s0 ∧ s0 ≤ r0 ∧ r0 ≤ m ∧ r0 ≤ mid ∧ mid + m ≤ s0 + b ∧ (s0 = a ∨ s0 + b = mid + m) ∧ (r0 = m ∨ r0 = mid) ∧ w = wx
def Row3 (g cap : Nat) (l : List El) (w wx : World) : Prop := RowE wx g cap l ∧ w.grownBy wx (some g)

set_option maxRecDepth 100000 in
set_option maxHeartbeats 4000000 in
theorem sym3_any {g cap : Nat} (P L R S : List El) {l : List El} (a m b n : Nat) (w : World) (h : RowE w g cap l) (hl : l = P ++ (L ++ (R ++ S))) (ha : a = P.length) (hm : m = a + L.length) (hb : b = m + R.length) (hn : n = l.length) (hle : n ≤ 1000000) (hsL : SortedL ltE L) (hsR : SortedL ltE R) (hL2 : 2 ≤ L.length) (hR2 : 2 ≤ R.length)
    (IH : ∀ (P L' R' S : List El) (l : List El) (a m b n : Nat) (w : World), L'.length + R'.length < L.length + R.length → RowE w g cap l → l = P ++ (L' ++ (R' ++ S)) → a = P.length → m = a + L'.length → b = m + R'.length → n = l.length → n ≤ 1000000 → SortedL ltE L' → SortedL ltE R' → 0 < L'.length → 0 < R'.length →
      Calls Try.prog 75 #[.slice (some ⟨g, 0, none⟩) n cap, .int .i64 a, .int .i64 m, .int .i64 b, cmpV] w
        fun e w' => e = .returned (.tuple #[]) ∧ RowE w' g cap (P ++ (mergeL ltE L' R' ++ S)) ∧ w.grownBy w' (some g)) :
    Calls Try.prog 75 #[.slice (some ⟨g, 0, none⟩) n cap, .int .i64 a, .int .i64 m, .int .i64 b, cmpV] w
      fun e w' => e = .returned (.tuple #[]) ∧ RowE w' g cap (P ++ (mergeL ltE L R ++ S)) ∧ w.grownBy w' (some g) := by
  have hcap := h.1
  have hbn : b ≤ n := by rw [hn, hl]; simp; omega
  have hnc : n ≤ cap := by rw [hn]; exact hcap
  have HW := Lib.hid h
  have HIH := Lib.hid IH
  have HAt := Lib.hid (fun t (ht : a ≤ t) (h2 : t < m) => show l.getD t el0 = L.getD (t - a) el0 by
    rw [hl, getD_right (j := t - a) _ _ (by omega), getD_left _ _ (by omega)])
  have HBt := Lib.hid (fun t (ht : m ≤ t) (h2 : t < b) => show l.getD t el0 = R.getD (t - m) el0 by
    rw [hl, getD_right (j := t - a) _ _ (by omega), getD_right (j := t - m) _ _ (by omega), getD_left _ _ (by omega)])
  have HLl := Lib.hid hn
  have HL := Lib.hid hl
  have HP := Lib.hid ha
  have HBr := Lib.hid hm
  have HBb := Lib.hid hb
  have HSL := Lib.hid hsL
  have HSR := Lib.hid hsR
  have ham : a + 2 ≤ m := by omega
  have hmb : m + 2 ≤ b := by omega
  have h0 : ((m : Int) - (a : Int) == 1) = false := by rw [beq_eq_false_iff_ne]; omega
  have h1 : ((b : Int) - (m : Int) == 1) = false := by rw [beq_eq_false_iff_ne]; omega
  obtain ⟨mid, hmd⟩ : ∃ mid, mid = (a + b) / 2 := ⟨_, rfl⟩
  have hmid : ((a : Int) + (b : Int)) / 2 = (mid : Int) := by omega
  have hmd1 : 2 * mid ≤ a + b := by omega
  have hmd2 : a + b ≤ 2 * mid + 1 := by omega
  obtain ⟨nn, hnn⟩ : ∃ nn, nn = mid + m := ⟨_, rfl⟩
  have hnI : (mid : Int) + (m : Int) = (nn : Int) := by omega
  have hn1 : nn ≤ mid + m := by omega
  have hn2 : mid + m ≤ nn := by omega
  unfold cmpV
  clear h hl ha hm hb hn hcap hsL hsR hmd hnn hL2 hR2 IH
  go_enter Try.func75, Try.ntmps75
  go_upto_if 140 with (fail)
  go_cut [20, 21] (fun i j wx => S3Beg L R a m b mid w i j wx)
  case first =>
    as_aux_lemma =>
      by_cases hbr : mid < m
      · obtain ⟨s0, hs0⟩ : ∃ s0, s0 = nn - b := ⟨_, rfl⟩
        have hsI : (nn : Int) - (b : Int) = (s0 : Int) := by omega
        have HX := Lib.hid (show S3Beg L R a m b mid w (.int .i64 (s0 : Nat)) (.int .i64 (mid : Nat)) w from ⟨s0, mid, rfl, rfl, by omega, by omega, by omega, by omega, by omega, .inr (by omega), .inr rfl, rfl⟩)
        clear hs0
        go_wp2_with fail
        go_meet
        exact HX.out
      · have HX := Lib.hid (show S3Beg L R a m b mid w (.int .i64 (a : Nat)) (.int .i64 (m : Nat)) w from ⟨a, m, rfl, rfl, by omega, by omega, by omega, by omega, by omega, .inl rfl, .inl rfl, rfl⟩)
        go_wp2_with fail
        go_meet
        exact HX.out
  case rest =>
    obtain ⟨s0, r0, rfl, rfl, hs1, hs2, hs3, hs4, hs5, hs6, hs7, rfl⟩ := hcut
    have HS6 := Lib.hid hs6
    have HS7 := Lib.hid hs7
    have HS0 := Lib.hid (show S3Rel g cap l L R a mid s0 r0 w (.int .i64 (s0 : Nat)) (.int .i64 (r0 : Nat)) w from ⟨s0, r0, rfl, rfl, Nat.le_refl _, hs2, Nat.le_refl _, .inl rfl, .inl rfl, HW.out, gb_refl _ _⟩)
    obtain ⟨pp, hpp⟩ : ∃ pp, pp = nn - 1 := ⟨_, rfl⟩
    have hpI : (nn : Int) - 1 = (pp : Int) := by omega
    have hp1 : pp + 1 ≤ nn := by omega
    have hp2 : nn ≤ pp + 1 := by omega
    clear hs6 hs7 hpp
    go_wp2_with fail
    go_loopw [20, 21] (fun i j wr => S3Rel g cap l L R a mid s0 r0 w i j wr) (fun i j _ => (intOf j).toNat - (intOf i).toNat)
    case atStart => exact HS0.out
    case round =>
      clear HS0
      obtain ⟨p, q, rfl, rfl, hq1, hpq, hq2, hlo, hhi, hrow, hgb⟩ := hrel
      have HR := Lib.hid hrow
      have HG := Lib.hid hgb
      have HLo := Lib.hid hlo
      have HHi := Lib.hid hhi
      clear hrow hgb hlo hhi
      by_cases hlt : p < q
      · obtain ⟨c, hh⟩ : ∃ c, c = (p + q) / 2 := ⟨_, rfl⟩
        have hci : ((p : Int) + (q : Int)) / 2 = (c : Int) := by omega
        have hpc : p ≤ c := by omega
        have hcq : c < q := by omega
        obtain ⟨v, hv⟩ : ∃ v, v = pp - c := ⟨_, rfl⟩
        have hvm : m ≤ v := by omega
        have hvb : v < b := by omega
        have hac : a ≤ c := by omega
        have hcm : c < m := by omega
        have hlv : v < l.length := by rw [← HLl.out]; omega
        have hlc : c < l.length := by rw [← HLl.out]; omega
        obtain ⟨c0, c1⟩ := HR.out.at_ hlv
        obtain ⟨d0, d1⟩ := HR.out.at_ hlc
        rw [HBt.out v hvm hvb, show v - m = mid - 1 - c by omega] at c0 c1
        rw [HAt.out c hac hcm] at d0 d1
        have HNn := Lib.hid (fun w' (hl : ltE (R.getD (mid - 1 - c) el0) (L.getD (c - a) el0) = false) (h1 : RowE w' g cap l) (h2 : w.grownBy w' (some g)) => show S3Rel g cap l L R a mid s0 r0 w (.int .i64 ((c : Int) + 1)) (.int .i64 q) w' from
          ⟨c + 1, q, by go_num, rfl, by omega, by omega, hq2, .inr ⟨by omega, by rw [show mid - (c + 1) = mid - 1 - c by omega, show c + 1 - 1 - a = c - a by omega]; exact hl⟩, HHi.out, h1, h2⟩)
        have HNy := Lib.hid (fun w' (hl : ltE (R.getD (mid - 1 - c) el0) (L.getD (c - a) el0) = true) (h1 : RowE w' g cap l) (h2 : w.grownBy w' (some g)) => show S3Rel g cap l L R a mid s0 r0 w (.int .i64 p) (.int .i64 c) w' from
          ⟨p, c, rfl, rfl, hq1, hpc, by omega, HLo.out, .inr hl, h1, h2⟩)
        have HCm := Lib.hid (fun w => cmpS_any (R.getD (mid - 1 - c) el0) (L.getD (c - a) el0) w)
        have hgl := HR.out.lt
        have HRF := Lib.hid (fun w' (hb : Below wr.heap.size wr w') => HR.out.below hb hgl)
        have HGF := Lib.hid (fun w' (hb : Below wr.heap.size wr w') => gb_trans HG.out (gb_of_below hb (some g)))
        simp only [cA, cB] at c0 c1 d0 d1 HCm
        have hz1 : (0 : Int) ≤ (c : Int) := by omega
        have hz2 : (c : Int) < (n : Int) := by omega
        have hz3 : (0 : Int) ≤ (v : Int) := by omega
        have hz4 : (v : Int) < (n : Int) := by omega
        have hcn : c < n := by omega
        have hvn : v < n := by omega
        have hvI : (pp : Int) - (c : Int) = (v : Int) := by omega
        have hvW : IntKind.i64.wrap (v : Int) = (v : Int) := IntWalk.i64_in _ (by omega)
        clear hh hlv hlc hv HLo HHi HAt HBt
        generalize L.getD (c - a) el0 = z at *
        generalize R.getD (mid - 1 - c) el0 = y at *
        cases hl : ltE y z with
        | true =>
          as_aux_lemma =>
            have hc := cmpE_lt hl
            rw [hc] at HCm
            have HN := Lib.hid (fun w' h1 h2 => HNy.out w' hl h1 h2)
            clear hc hl HNy HNn
            go_wp2_with fail
            go_region_held3 (fun w' => w'.cell? ⟨g, v * 2, none⟩ = some (.int .i64 y.1) ∧ w'.cell? ⟨g, v * 2 + 1, none⟩ = some (.int .i64 y.2) ∧ w'.cell? ⟨g, c * 2, none⟩ = some (.int .i64 z.1) ∧ w'.cell? ⟨g, c * 2 + 1, none⟩ = some (.int .i64 z.2))
              (first | exact keepE (by assumption) hb1 | go_keep)
              (first | (go_at_call 43; refine (HCm.out _).mono ?_; rintro e w2 ⟨rfl, hb1⟩))
            have hd1 := drE hb1
            have HN3 := Lib.hid (HN.out _ (HRF.out _ hd1) (HGF.out _ hd1))
            clear hb1 hd1 HRF HGF HCm HR HG HN
            go_wp2_with fail
            exact ⟨HN3.out, by simp [intOf]; omega⟩
        | false =>
          as_aux_lemma =>
            have hc := cmpE_ge hl
            have HN := Lib.hid (fun w' h1 h2 => HNn.out w' hl h1 h2)
            generalize cmpE y z = cc at *
            have hc2 : decide (cc < 0) = false := by simp; omega
            clear hl HNy HNn
            go_wp2_with fail
            go_region_held3 (fun w' => w'.cell? ⟨g, v * 2, none⟩ = some (.int .i64 y.1) ∧ w'.cell? ⟨g, v * 2 + 1, none⟩ = some (.int .i64 y.2) ∧ w'.cell? ⟨g, c * 2, none⟩ = some (.int .i64 z.1) ∧ w'.cell? ⟨g, c * 2 + 1, none⟩ = some (.int .i64 z.2))
              (first | exact keepE (by assumption) hb1 | go_keep)
              (first | (go_at_call 43; refine (HCm.out _).mono ?_; rintro e w2 ⟨rfl, hb1⟩))
            have hd1 := drE hb1
            have HN3 := Lib.hid (HN.out _ (HRF.out _ hd1) (HGF.out _ hd1))
            clear hb1 hd1 HRF HGF HCm HR HG HN
            go_wp2_with fail
            exact ⟨HN3.out, by simp [intOf]; omega⟩
      · have hpe : q = p := by omega
        subst hpe
        clear hlt
        obtain ⟨en, hen⟩ : ∃ en, en = nn - q := ⟨_, rfl⟩
        have heI : (nn : Int) - (q : Int) = (en : Int) := by omega
        have hem : en = m + (mid - q) := by omega
        have HM := Lib.hid (sym_cut HSL.out HSR.out (q - a) (s0 - a) (r0 - a) (mid - a) (by have := HBr.out; omega) (by omega) (by have := HBb.out; omega)
          (by
            rcases HLo.out with e | ⟨e1, e2⟩
            · exact .inl (by rw [e])
            · exact .inr ⟨by omega, by rw [show mid - a - (q - a) = mid - q by omega, show q - a - 1 = q - 1 - a by omega]; exact e2⟩)
          (by
            rcases HHi.out with e | e
            · exact .inl (by rw [e])
            · exact .inr (by rw [show mid - a - 1 - (q - a) = mid - 1 - q by omega]; exact e))
          (by rcases HS6.out with e | e; exact .inl (by omega); exact .inr (by have := HBb.out; omega))
          (by rcases HS7.out with e | e; exact .inl (by have := HBr.out; omega); exact .inr (by omega)))
        rw [show mid - a - (q - a) = mid - q by omega] at HM
        have hL1 : (L.take (q - a)).length = q - a := by rw [List.length_take]; have := HBr.out; omega
        have hL2 : (L.drop (q - a)).length = m - q := by rw [List.length_drop]; have := HBr.out; omega
        have hR1 : (R.take (mid - q)).length = mid - q := by rw [List.length_take]; have := HBb.out; omega
        have hR2 : (R.drop (mid - q)).length = b - en := by rw [List.length_drop]; have := HBb.out; omega
        have sL1 : SortedL ltE (L.take (q - a)) := List.Pairwise.sublist (List.take_sublist _ _) HSL.out
        have sL2 : SortedL ltE (L.drop (q - a)) := List.Pairwise.sublist (List.drop_sublist _ _) HSL.out
        have sR1 : SortedL ltE (R.take (mid - q)) := List.Pairwise.sublist (List.take_sublist _ _) HSR.out
        have sR2 : SortedL ltE (R.drop (mid - q)) := List.Pairwise.sublist (List.drop_sublist _ _) HSR.out
        have HEl := Lib.hid (show l = (P ++ L.take (q - a)) ++ (L.drop (q - a) ++ (R.take (mid - q) ++ (R.drop (mid - q) ++ S))) by
          rw [HL.out]
          conv => lhs; rw [← List.take_append_drop (q - a) L, ← List.take_append_drop (mid - q) R]
          simp only [List.append_assoc])
        have HsL1 := Lib.hid sL1
        have HsL2 := Lib.hid sL2
        have HsR1 := Lib.hid sR1
        have HsR2 := Lib.hid sR2
        have HlL1 := Lib.hid hL1
        have HlL2 := Lib.hid hL2
        have HlR1 := Lib.hid hR1
        have HlR2 := Lib.hid hR2
        have hen1 : en ≤ m + (mid - q) := by omega
        have hen2 : m + (mid - q) ≤ en := by omega
        have hLR := HBr.out
        have hLR2 := HBb.out
        have HLen := Lib.hid hLR
        have HLen2 := Lib.hid hLR2
        have haq : a ≤ q := by omega
        have hqm : q ≤ m := by omega
        have hqd : q ≤ mid := by omega
        have hme : m ≤ en := by omega
        have hde : mid ≤ en := by omega
        have heb : en ≤ b := by omega
        have hmid2 : mid + (m - q) = en := by omega
        have HMd := Lib.hid hmid2
        clear sL1 sL2 sR1 sR2 hL1 hL2 hR1 hR2 hen hem HLo HHi HS6 HS7 HAt HBt HSL HSR hLR hLR2 hmid2
        have HK1 := Lib.hid (HIH.out P (L.take (q - a)) (R.take (mid - q)))
        have HK2 := Lib.hid (HIH.out (P ++ mergeL ltE (L.take (q - a)) (R.take (mid - q))) (L.drop (q - a)) (R.drop (mid - q)))
        generalize L.take (q - a) = L1 at *
        generalize L.drop (q - a) = L2 at *
        generalize R.take (mid - q) = R1 at *
        generalize R.drop (mid - q) = R2 at *
        have HR0 := Lib.hid (show Row3 g cap ((P ++ L1) ++ (L2 ++ (R1 ++ (R2 ++ S)))) w wr from ⟨by rw [← HEl.out]; exact HR.out, HG.out⟩)
        have HTl := Lib.hid (show ((P ++ L1) ++ (L2 ++ (R1 ++ (R2 ++ S)))).length = n by rw [← HEl.out]; exact HLl.out.symm)
        have HTl1 := Lib.hid (show (P ++ (L1 ++ (R1 ++ (L2 ++ (R2 ++ S))))).length = n by rw [← HTl.out]; simp; omega)
        have HTl2 := Lib.hid (show ((P ++ mergeL ltE L1 R1) ++ (L2 ++ (R2 ++ S))).length = n by rw [← HTl.out]; simp [mergeL_len]; omega)
        clear HR HG HEl HL HLl HIH HW
        go_upto_region 38 with (fail)
        go_cut [24] (fun s wx => s = .int .i64 (en : Nat) ∧ wr = wx)
        case first =>
          as_aux_lemma =>
            go_wp2_with fail
            go_meet
            exact ⟨rfl, rfl⟩
        case rest =>
        obtain ⟨rfl, rfl⟩ := hcut
        rename_i hKK
        refine hKK _ _ ?_
        refine wp_seq_k (fun K hK => ?_)
        go_cut [24] (fun s wx => s = .int .i64 (en : Nat) ∧ Row3 g cap (P ++ (L1 ++ (R1 ++ (L2 ++ (R2 ++ S))))) w wx)
        case first =>
          as_aux_lemma =>
            by_cases hg1 : q < m
            · by_cases hg2 : m < en
              · have HC := Lib.hid (fun c => rotate_any (P ++ L1) L2 R1 (R2 ++ S) q m en n c wr HR0.out.1 rfl (by have := HlL2.out; omega) (by have := HlR1.out; omega) (by have := HlL1.out; have := HP.out; simp; omega) (by have := HlL1.out; have := HlL2.out; have := HP.out; simp; omega) (by have := HlL1.out; have := HlL2.out; have := HlR1.out; have := HP.out; simp; omega) HTl.out.symm hle)
                have HGG := Lib.hid HR0.out.2
                go_wp2_with fail
                refine (HC.out _).mono ?_
                rintro e w3 ⟨rfl, hr3, hg3⟩
                have HX := Lib.hid (show Row3 g cap (P ++ (L1 ++ (R1 ++ (L2 ++ (R2 ++ S))))) w w3 from ⟨by simpa using hr3, gb_trans HGG.out hg3⟩)
                clear hr3 hg3 HC
                go_wp2_with fail
                go_meet
                exact ⟨rfl, HX.out⟩
              · have e0 : R1 = [] := List.length_eq_zero_iff.1 (by have := HlR1.out; omega)
                have HX := Lib.hid (show Row3 g cap (P ++ (L1 ++ (R1 ++ (L2 ++ (R2 ++ S))))) w wr from ⟨by have := HR0.out.1; rw [e0] at this ⊢; simpa using this, HR0.out.2⟩)
                clear e0
                go_wp2_with fail
                go_meet
                exact ⟨rfl, HX.out⟩
            · have e0 : L2 = [] := List.length_eq_zero_iff.1 (by have := HlL2.out; omega)
              have HX := Lib.hid (show Row3 g cap (P ++ (L1 ++ (R1 ++ (L2 ++ (R2 ++ S))))) w wr from ⟨by have := HR0.out.1; rw [e0] at this ⊢; simpa using this, HR0.out.2⟩)
              clear e0
              go_wp2_with fail
              go_meet
              exact ⟨rfl, HX.out⟩
        case rest =>
          obtain ⟨rfl, hcut⟩ := hcut
          have HR1 := Lib.hid hcut
          clear hcut HR0
          refine hK _ _ ?_
          refine wp_seq_k (fun K hK => ?_)
          go_cut [24] (fun s wx => s = .int .i64 (en : Nat) ∧ Row3 g cap ((P ++ mergeL ltE L1 R1) ++ (L2 ++ (R2 ++ S))) w wx)
          case first =>
            as_aux_lemma =>
              by_cases hg1 : a < q
              · by_cases hg2 : q < mid
                · have HC := Lib.hid (HK1.out (L2 ++ (R2 ++ S)) _ a q mid n wc (by have h1 := HlL1.out; have h2 := HlR1.out; have h3 := HLen.out; have h4 := HLen2.out; omega) HR1.out.1 rfl HP.out (by have h1 := HlL1.out; omega) (by have h2 := HlR1.out; omega) HTl1.out.symm hle HsL1.out HsR1.out (by have h1 := HlL1.out; omega) (by have h2 := HlR1.out; omega))
                  have HGG := Lib.hid HR1.out.2
                  clear HK2
                  unfold cmpV at HC
                  go_wp2_with fail
                  refine HC.out.mono ?_
                  rintro e w3 ⟨rfl, hr3, hg3⟩
                  have HX := Lib.hid (show Row3 g cap ((P ++ mergeL ltE L1 R1) ++ (L2 ++ (R2 ++ S))) w w3 from ⟨by simpa using hr3, gb_trans HGG.out hg3⟩)
                  clear hr3 hg3 HC
                  go_wp2_with fail
                  go_meet
                  exact ⟨rfl, HX.out⟩
                · have e0 : R1 = [] := List.length_eq_zero_iff.1 (by have := HlR1.out; omega)
                  have HX := Lib.hid (show Row3 g cap ((P ++ mergeL ltE L1 R1) ++ (L2 ++ (R2 ++ S))) w wc from ⟨by have := HR1.out.1; rw [e0] at this ⊢; rw [mergeL_nil_right]; simpa using this, HR1.out.2⟩)
                  clear e0
                  go_wp2_with fail
                  go_meet
                  exact ⟨rfl, HX.out⟩
              · have e0 : L1 = [] := List.length_eq_zero_iff.1 (by have := HlL1.out; omega)
                have HX := Lib.hid (show Row3 g cap ((P ++ mergeL ltE L1 R1) ++ (L2 ++ (R2 ++ S))) w wc from ⟨by have := HR1.out.1; rw [e0] at this ⊢; rw [mergeL_nil_left]; simpa using this, HR1.out.2⟩)
                clear e0
                go_wp2_with fail
                go_meet
                exact ⟨rfl, HX.out⟩
          case rest =>
            obtain ⟨rfl, hcut⟩ := hcut
            have HR2 := Lib.hid hcut
            clear hcut HR1
            have HPm := Lib.hid (show (P ++ mergeL ltE L1 R1).length = mid by have h1 := HlL1.out; have h2 := HlR1.out; have h3 := HP.out; rw [List.length_append, mergeL_len]; omega)
            by_cases hg1 : mid < en
            · by_cases hg2 : en < b
              · have HC := Lib.hid (HK2.out S _ mid en b n wc (by have h1 := HlL2.out; have h2 := HlR2.out; have h3 := HLen.out; have h4 := HLen2.out; omega) HR2.out.1 rfl HPm.out.symm (by have h1 := HlL2.out; omega) (by have h2 := HlR2.out; omega) HTl2.out.symm hle HsL2.out HsR2.out (by have h1 := HlL2.out; omega) (by have h2 := HlR2.out; omega))
                have HGG := Lib.hid HR2.out.2
                clear HK1
                unfold cmpV at HC
                go_wp2_with fail
                refine HC.out.mono ?_
                rintro e w3 ⟨rfl, hr3, hg3⟩
                have HX := Lib.hid (show RowE w3 g cap (P ++ (mergeL ltE L R ++ S)) ∧ w.grownBy w3 (some g) from ⟨by rw [HM.out]; simpa using hr3, gb_trans HGG.out hg3⟩)
                clear hr3 hg3 HC
                go_wp2_with fail
                go_end0
                exact ⟨rfl, HX.out⟩
              · have e0 : R2 = [] := List.length_eq_zero_iff.1 (by have := HlR2.out; omega)
                have HX := Lib.hid (show RowE wc g cap (P ++ (mergeL ltE L R ++ S)) ∧ w.grownBy wc (some g) from ⟨by rw [HM.out]; have := HR2.out.1; rw [e0] at this ⊢; rw [mergeL_nil_right]; simpa using this, HR2.out.2⟩)
                clear e0
                go_wp2_with fail
                go_end0
                exact ⟨rfl, HX.out⟩
            · have e0 : L2 = [] := List.length_eq_zero_iff.1 (by have := HlL2.out; have := HMd.out; omega)
              have HX := Lib.hid (show RowE wc g cap (P ++ (mergeL ltE L R ++ S)) ∧ w.grownBy wc (some g) from ⟨by rw [HM.out]; have := HR2.out.1; rw [e0] at this ⊢; rw [mergeL_nil_left]; simpa using this, HR2.out.2⟩)
              clear e0
              go_wp2_with fail
              go_end0
              exact ⟨rfl, HX.out⟩

end Go.Proofs.Ytnjcelilljniaaa

/-
  slices.symMergeCmpFunc, for whatever two neighbours that are in order.
-/
namespace Go.Proofs.Ytnjcelilljniaaa
open Go.RowKit

theorem len_one {L : List El} (h : L.length = 1) : ∃ x, L = [x] := by
  cases L with
  | nil => cases h
  | cons x r => cases r with
    | nil => exact ⟨x, rfl⟩
    | cons y r => simp at h
theorem symMerge_fuel {g cap : Nat} : ∀ (F : Nat) (P L R S : List El) (l : List El) (a m b n : Nat) (w : World), L.length + R.length ≤ F → RowE w g cap l → l = P ++ (L ++ (R ++ S)) → a = P.length → m = a + L.length → b = m + R.length → n = l.length → n ≤ 1000000 → SortedL ltE L → SortedL ltE R → 0 < L.length → 0 < R.length →
    Calls Try.prog 75 #[.slice (some ⟨g, 0, none⟩) n cap, .int .i64 a, .int .i64 m, .int .i64 b, cmpV] w
      fun e w' => e = .returned (.tuple #[]) ∧ RowE w' g cap (P ++ (mergeL ltE L R ++ S)) ∧ w.grownBy w' (some g) := by
  intro F
  induction F with
  | zero => intro P L R S l a m b n w hF h hl ha hm hb hn hle hsL hsR h1 h2; exfalso; omega
  | succ F IH =>
    intro P L R S l a m b n w hF h hl ha hm hb hn hle hsL hsR h1 h2
    by_cases hL : L.length = 1
    · obtain ⟨x, rfl⟩ := len_one hL
      exact sym1_any P x R S a m b n w h hl ha hm hb hn hle hsR
    · by_cases hR : R.length = 1
      · obtain ⟨y, rfl⟩ := len_one hR
        exact sym2_any P L y S a m b n w h hl ha hm hb hn hle hsL hL
      · exact sym3_any P L R S a m b n w h hl ha hm hb hn hle hsL hsR (by omega) (by omega) (fun P' L' R' S' l' a' m' b' n' w' hlt => IH P' L' R' S' l' a' m' b' n' w' (by omega))
theorem symMerge_any {g cap : Nat} (P L R S : List El) {l : List El} (a m b n : Nat) (w : World) (h : RowE w g cap l) (hl : l = P ++ (L ++ (R ++ S))) (ha : a = P.length) (hm : m = a + L.length) (hb : b = m + R.length) (hn : n = l.length) (hle : n ≤ 1000000) (hsL : SortedL ltE L) (hsR : SortedL ltE R) (h1 : 0 < L.length) (h2 : 0 < R.length) :
    Calls Try.prog 75 #[.slice (some ⟨g, 0, none⟩) n cap, .int .i64 a, .int .i64 m, .int .i64 b, cmpV] w
      fun e w' => e = .returned (.tuple #[]) ∧ RowE w' g cap (P ++ (mergeL ltE L R ++ S)) ∧ w.grownBy w' (some g) :=
  symMerge_fuel _ P L R S l a m b n w (Nat.le_refl _) h hl ha hm hb hn hle hsL hsR h1 h2

end Go.Proofs.Ytnjcelilljniaaa

/-
  Plain: blocks in order, merged two by two.
-/
namespace Go.Proofs.Ytnjcelilljniaaa
open Go.RowKit

/-- Each block of s in order, the last one shorter. -/
def blk (s : Nat) (l : List El) : List El :=
  if h : s = 0 ∨ l.length ≤ s then sortL ltE l else sortL ltE (l.take s) ++ blk s (l.drop s)
termination_by l.length
decreasing_by simp at h ⊢; omega

theorem blk_last {s : Nat} {l : List El} (h : l.length ≤ s) : blk s l = sortL ltE l := by rw [blk, dif_pos (.inr h)]
theorem blk_step {s : Nat} {l : List El} (h : s ≤ l.length) (h0 : 0 < s) : blk s l = sortL ltE (l.take s) ++ blk s (l.drop s) := by
  rcases Nat.lt_or_ge s l.length with h1 | h1
  · rw [blk, dif_neg (by omega)]
  · have e : l.take s = l := List.take_of_length_le h1
    have e2 : l.drop s = [] := List.drop_of_length_le h1
    rw [blk_last h1, e, e2, blk_last (by simp)]
    simp [sortL]
theorem blk_len {s : Nat} : ∀ (k : Nat) (l : List El), l.length ≤ k → (blk s l).length = l.length := by
  intro k
  induction k with
  | zero => intro l h; rw [blk_last (by omega), sortL_len]
  | succ k ih =>
    intro l h
    by_cases h1 : s = 0 ∨ l.length ≤ s
    · rw [blk, dif_pos h1, sortL_len]
    · rw [blk_step (by omega) (by omega), List.length_append, sortL_len, ih _ (by simp; omega)]; simp; omega
theorem blk_length (s : Nat) (l : List El) : (blk s l).length = l.length := blk_len l.length l (Nat.le_refl _)

/-- Two blocks become one. -/
theorem blk_two {s s2 : Nat} {l : List El} (h2 : s2 = s + s) (h : s2 ≤ l.length) (h0 : 0 < s) :
    blk s l = sortL ltE (l.take s) ++ (sortL ltE ((l.drop s).take s) ++ blk s (l.drop s2)) ∧ blk s2 l = mergeL ltE (sortL ltE (l.take s)) (sortL ltE ((l.drop s).take s)) ++ blk s2 (l.drop s2) := by
  subst h2
  refine ⟨?_, ?_⟩
  · rw [blk_step (by omega) h0, blk_step (l := l.drop s) (by simp; omega) h0, List.drop_drop]
  · rw [blk_step h (by omega), ← sortL_append ltE_weak, List.take_add]
theorem blk_rest {s s2 : Nat} {l : List El} (h2 : s2 = s + s) (h : l.length < s2) (h1 : s < l.length) (h0 : 0 < s) :
    blk s l = sortL ltE (l.take s) ++ sortL ltE (l.drop s) ∧ blk s2 l = mergeL ltE (sortL ltE (l.take s)) (sortL ltE (l.drop s)) := by
  subst h2
  refine ⟨?_, ?_⟩
  · rw [blk_step (by omega) h0, blk_last (l := l.drop s) (by simp; omega)]
  · rw [blk_last (by omega), ← sortL_append ltE_weak, List.take_append_drop]
theorem blk_short {s s2 : Nat} {l : List El} (h2 : s2 = s + s) (h1 : l.length ≤ s) : blk s l = blk s2 l := by
  rw [blk_last h1, blk_last (by omega)]

end Go.Proofs.Ytnjcelilljniaaa
