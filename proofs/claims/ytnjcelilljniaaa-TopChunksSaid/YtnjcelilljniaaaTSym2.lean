/-
  slices.symMergeCmpFunc, one element behind others.
-/
import Derived.Test.YtnjcelilljniaaaTSym1
namespace Go.Proofs.Ytnjcelilljniaaa
open Go.RowKit

/-- The search by halves for the first that y comes ahead of. -/
def S2Rel (g cap : Nat) (l L : List El) (y : El) (a : Nat) (w : World) (i j : Value) (wr : World) : Prop :=
  ∃ p q : Nat, i = .int .i64 (p : Nat) ∧ j = .int .i64 (q : Nat) ∧ a ≤ p ∧ p ≤ q ∧ q ≤ a + L.length ∧ (∀ t, t < p - a → ltE y (L.getD t el0) = false) ∧ (∀ t, q - a ≤ t → t < L.length → ltE y (L.getD t el0) = true) ∧ RowE wr g cap l ∧ w.grownBy wr (some g)
/-- y has come back to behind t of L2. -/
def K2Rel (g cap : Nat) (P L2 T : List El) (y : El) (p : Nat) (w : World) (k : Value) (wr : World) : Prop :=
  ∃ t : Nat, t ≤ L2.length ∧ k = .int .i64 (p + t : Nat) ∧ RowE wr g cap (P ++ (L2.take t ++ (y :: (L2.drop t ++ T)))) ∧ w.grownBy wr (some g)
theorem swap_prev (A C : List El) (x z : El) (j : Nat) (hj : j = A.length) : swapE (A ++ x :: z :: C) (j + 1) j = A ++ z :: x :: C := by
  rw [← (swap_next A C x z j hj).2.2]
  unfold swapE
  rw [List.set_comm _ _ (by omega)]

set_option maxRecDepth 100000 in
set_option maxHeartbeats 4000000 in
theorem sym2_any {g cap : Nat} (P L : List El) (y : El) (S : List El) {l : List El} (a m b n : Nat) (w : World) (h : RowE w g cap l) (hl : l = P ++ (L ++ (y :: S))) (ha : a = P.length) (hm : m = a + L.length) (hb : b = m + 1) (hn : n = l.length) (hle : n ≤ 1000000) (hs : SortedL ltE L) (h1L : L.length ≠ 1) :
    Calls Try.prog 75 #[.slice (some ⟨g, 0, none⟩) n cap, .int .i64 a, .int .i64 m, .int .i64 b, cmpV] w
      fun e w' => e = .returned (.tuple #[]) ∧ RowE w' g cap (P ++ (mergeL ltE L [y] ++ S)) ∧ w.grownBy w' (some g) := by
  have HS0 := Lib.hid (show S2Rel g cap l L y a w (.int .i64 a) (.int .i64 m) w from ⟨a, m, rfl, rfl, Nat.le_refl _, by omega, by omega, fun t ht => by omega, fun t h1 h2 => by omega, h, gb_refl _ _⟩)
  have hcap := h.1
  have hbn : b ≤ n := by rw [hn, hl]; simp; omega
  have hnc : n ≤ cap := by rw [hn]; exact hcap
  have HAy := Lib.hid (show l.getD m el0 = y by
    rw [hl, show P ++ (L ++ (y :: S)) = (P ++ L) ++ y :: S by simp, show m = (P ++ L).length by simp; omega]; exact getD_mid _ _ _)
  have HRt := Lib.hid (fun t (ht : a ≤ t) (h2 : t < m) => show l.getD t el0 = L.getD (t - a) el0 by
    rw [hl, getD_right (j := t - a) _ _ (by omega), getD_left _ _ (by omega)])
  have HLl := Lib.hid hn
  have HL := Lib.hid hl
  have HP := Lib.hid ha
  have HBr := Lib.hid hm
  have HSo := Lib.hid hs
  have ham : a ≤ m := by omega
  have hmb : m < b := by omega
  have h0 : ((m : Int) - (a : Int) == 1) = false := by rw [beq_eq_false_iff_ne]; omega
  have h1 : ((b : Int) - (m : Int) == 1) = true := by rw [beq_iff_eq]; omega
  unfold cmpV
  clear h hl ha hm hb hn hcap hs h1L
  go_enter Try.func75, Try.ntmps75
  go_wp2_with fail
  go_loopw [14, 15] (fun i j wr => S2Rel g cap l L y a w i j wr) (fun i j _ => (intOf j).toNat - (intOf i).toNat)
  case atStart => exact HS0.out
  case round =>
    clear HS0
    obtain ⟨p, q, rfl, rfl, hp1, hpq, hq1, hlo, hhi, hrow, hgb⟩ := hrel
    have HR := Lib.hid hrow
    have HG := Lib.hid hgb
    have HLo := Lib.hid hlo
    have HHi := Lib.hid hhi
    have hqm : q ≤ m := by have := HBr.out; omega
    clear hrow hgb hlo hhi hq1
    by_cases hlt : p < q
    · obtain ⟨h, hh⟩ : ∃ h, h = (p + q) / 2 := ⟨_, rfl⟩
      have hmid : ((p : Int) + (q : Int)) / 2 = (h : Int) := by omega
      have hph : p ≤ h := by omega
      have hhq : h < q := by omega
      have hah : a ≤ h := by omega
      have hhm : h < m := by omega
      have hlh : h < l.length := by rw [← HLl.out]; omega
      have hlm : m < l.length := by rw [← HLl.out]; omega
      obtain ⟨c0, c1⟩ := HR.out.at_ hlm
      obtain ⟨d0, d1⟩ := HR.out.at_ hlh
      rw [HAy.out] at c0 c1
      rw [HRt.out h hah hhm] at d0 d1
      have hRh : h - a < L.length := by have := HBr.out; omega
      have HNn := Lib.hid (fun w' (hl : ltE y (L.getD (h - a) el0) = false) (h1 : RowE w' g cap l) (h2 : w.grownBy w' (some g)) => show S2Rel g cap l L y a w (.int .i64 ((h : Int) + 1)) (.int .i64 q) w' from
        ⟨h + 1, q, by go_num, rfl, by omega, by omega, by have := HBr.out; omega, fun t ht => ltE_weak.neg _ _ _ hl (sorted_le HSo.out (show t ≤ h - a by omega) hRh), HHi.out, h1, h2⟩)
      have HNy := Lib.hid (fun w' (hl : ltE y (L.getD (h - a) el0) = true) (h1 : RowE w' g cap l) (h2 : w.grownBy w' (some g)) => show S2Rel g cap l L y a w (.int .i64 p) (.int .i64 h) w' from
        ⟨p, h, rfl, rfl, hp1, hph, by have := HBr.out; omega, HLo.out, fun t h1 h2 => ltE_weak.lt_of_le hl (sorted_le HSo.out h1 h2), h1, h2⟩)
      have HCm := Lib.hid (fun w => cmpS_any y (L.getD (h - a) el0) w)
      have hgl := HR.out.lt
      have HRF := Lib.hid (fun w' (hb : Below wr.heap.size wr w') => HR.out.below hb hgl)
      have HGF := Lib.hid (fun w' (hb : Below wr.heap.size wr w') => gb_trans HG.out (gb_of_below hb (some g)))
      simp only [cA, cB] at c0 c1 d0 d1 HCm
      have hz1 : (0 : Int) ≤ (h : Int) := by omega
      have hz2 : (h : Int) < (n : Int) := by omega
      have hz3 : (0 : Int) ≤ (m : Int) := by omega
      have hz4 : (m : Int) < (n : Int) := by omega
      have hhn : h < n := by omega
      have hmn : m < n := by omega
      clear hh hlh hlm hRh HLo HHi HRt HAy
      generalize L.getD (h - a) el0 = z at *
      cases hl : ltE y z with
      | true =>
        have hc := cmpE_lt hl
        rw [hc] at HCm
        have HN := Lib.hid (fun w' h1 h2 => HNy.out w' hl h1 h2)
        clear hc hl HNy HNn
        go_wp2_with fail
        go_region_held3 (fun w' => w'.cell? ⟨g, m * 2, none⟩ = some (.int .i64 y.1) ∧ w'.cell? ⟨g, m * 2 + 1, none⟩ = some (.int .i64 y.2) ∧ w'.cell? ⟨g, h * 2, none⟩ = some (.int .i64 z.1) ∧ w'.cell? ⟨g, h * 2 + 1, none⟩ = some (.int .i64 z.2))
          (first | exact keepE (by assumption) hb1 | go_keep)
          (first | (go_at_call 43; refine (HCm.out _).mono ?_; rintro e w2 ⟨rfl, hb1⟩))
        have hd1 := drE hb1
        have HN3 := Lib.hid (HN.out _ (HRF.out _ hd1) (HGF.out _ hd1))
        clear hb1 hd1 HRF HGF HCm HR HG HN
        go_wp2_with fail
        exact ⟨HN3.out, by simp [intOf]; omega⟩
      | false =>
        have hc := cmpE_ge hl
        have HN := Lib.hid (fun w' h1 h2 => HNn.out w' hl h1 h2)
        generalize cmpE y z = cc at *
        have hc2 : decide (cc < 0) = false := by simp; omega
        clear hl HNy HNn
        go_wp2_with fail
        go_region_held3 (fun w' => w'.cell? ⟨g, m * 2, none⟩ = some (.int .i64 y.1) ∧ w'.cell? ⟨g, m * 2 + 1, none⟩ = some (.int .i64 y.2) ∧ w'.cell? ⟨g, h * 2, none⟩ = some (.int .i64 z.1) ∧ w'.cell? ⟨g, h * 2 + 1, none⟩ = some (.int .i64 z.2))
          (first | exact keepE (by assumption) hb1 | go_keep)
          (first | (go_at_call 43; refine (HCm.out _).mono ?_; rintro e w2 ⟨rfl, hb1⟩))
        have hd1 := drE hb1
        have HN3 := Lib.hid (HN.out _ (HRF.out _ hd1) (HGF.out _ hd1))
        clear hb1 hd1 HRF HGF HCm HR HG HN
        go_wp2_with fail
        exact ⟨HN3.out, by simp [intOf]; omega⟩
    · have hpe : p = q := by omega
      have HM := Lib.hid (show mergeL ltE L [y] = L.take (p - a) ++ y :: L.drop (p - a) by
        conv => lhs; rw [← List.take_append_drop (p - a) L]
        refine merge_one_back (fun x hx => ?_) (fun x hx => ?_)
        · obtain ⟨t, h1, _, rfl⟩ := take_mem hx
          exact HLo.out t h1
        · obtain ⟨t, h1, h2, rfl⟩ := drop_mem hx
          exact HHi.out t (by omega) h2)
      have hl1 : (L.take (p - a)).length = p - a := by rw [List.length_take]; have := HBr.out; omega
      have hl2 : (L.drop (p - a)).length + p = m := by rw [List.length_drop]; have := HBr.out; omega
      have HLn2 := Lib.hid (show P.length + L.length + 1 + S.length = n by rw [HLl.out, HL.out]; simp; omega)
      have hpm : p ≤ m := by omega
      clear hpe HLo HHi HRt HAy HSo
      have HRx := Lib.hid (show RowE wr g cap ((P ++ L.take (p - a)) ++ (L.drop (p - a) ++ (y :: ([] ++ S)))) by
        have := HR.out; rw [HL.out] at this; rw [List.append_assoc, ← List.append_assoc (L.take _), List.take_append_drop]; exact this)
      have HF := Lib.hid (show P ++ (mergeL ltE L [y] ++ S) = (P ++ L.take (p - a)) ++ ([] ++ (y :: (L.drop (p - a) ++ S))) by rw [HM.out]; simp)
      have HPl := Lib.hid (show (P ++ L.take (p - a)).length = p by rw [List.length_append, hl1, ← HP.out]; omega)
      clear HM HR hl1
      generalize L.drop (p - a) = L2 at *
      generalize P ++ L.take (p - a) = P1 at *
      have HK0 := Lib.hid (show K2Rel g cap P1 L2 S y p w (.int .i64 m) wr from ⟨L2.length, Nat.le_refl _, by rw [← hl2, Nat.add_comm], by rw [List.take_length, List.drop_length]; exact HRx.out, HG.out⟩)
      have HTn := Lib.hid (fun t (ht : t ≤ L2.length) => show (P1 ++ (L2.take t ++ (y :: (L2.drop t ++ S)))).length = n by
        have h1 := HPl.out
        have h2 := HLn2.out
        have h3 := HBr.out
        have h4 := HP.out
        simp only [List.length_append, List.length_cons, List.length_take, List.length_drop]
        omega)
      clear HRx HG
      have hl2m : p + L2.length ≤ m := by omega
      clear hl2
      go_wp2_with fail
      go_loopw [17] (fun k wr => K2Rel g cap P1 L2 S y p w k wr) (fun k _ => (intOf k).toNat)
      case atStart => exact HK0.out
      case round =>
        clear HK0
        obtain ⟨t, ht, rfl, hrow, hgb⟩ := hrel
        have HR := Lib.hid hrow
        have HG := Lib.hid hgb
        clear hrow hgb
        obtain ⟨k, hk⟩ : ∃ k, k = p + t := ⟨_, rfl⟩
        rw [← hk]
        by_cases htl : 0 < t
        · obtain ⟨u, hu⟩ : ∃ u, t = u + 1 := ⟨t - 1, by omega⟩
          subst hu
          have hul : u < L2.length := by omega
          obtain ⟨e1, e2⟩ := take_snocE hul
          have HLe := Lib.hid (HTn.out (u + 1) ht)
          have HNx := Lib.hid (fun w' (h1 : RowE w' g cap ((P1 ++ L2.take u) ++ y :: L2.getD u el0 :: (L2.drop (u + 1) ++ S))) (h2 : w.grownBy w' (some g)) => show K2Rel g cap P1 L2 S y p w (.int .i64 ((k : Int) - 1)) w' from
            ⟨u, by omega, by rw [hk]; congr 1; omega, by rw [e2]; simpa using h1, h2⟩)
          rw [e1] at HR HLe
          have el : P1 ++ ((L2.take u ++ [L2.getD u el0]) ++ (y :: (L2.drop (u + 1) ++ S))) = (P1 ++ L2.take u) ++ L2.getD u el0 :: y :: (L2.drop (u + 1) ++ S) := by simp
          rw [el] at HR HLe
          obtain ⟨q', hq'⟩ : ∃ q', q' = p + u := ⟨_, rfl⟩
          have hA : q' = (P1 ++ L2.take u).length := by rw [hq', List.length_append, List.length_take, HPl.out]; omega
          obtain ⟨s1, s2, -⟩ := swap_next (P1 ++ L2.take u) (L2.drop (u + 1) ++ S) (L2.getD u el0) y q' hA
          have s3 := swap_prev (P1 ++ L2.take u) (L2.drop (u + 1) ++ S) (L2.getD u el0) y q' hA
          have hkq : k = q' + 1 := by omega
          have hkm : k ≤ m := by omega
          have hkl : k < ((P1 ++ L2.take u) ++ L2.getD u el0 :: y :: (L2.drop (u + 1) ++ S)).length := by rw [HLe.out]; omega
          have hkl2 : q' < ((P1 ++ L2.take u) ++ L2.getD u el0 :: y :: (L2.drop (u + 1) ++ S)).length := by rw [HLe.out]; omega
          rw [← hkq] at s2 s3
          have HSw := Lib.hid (HR.out.swap hkl hkl2)
          obtain ⟨c0, c1⟩ := HR.out.at_ hkl
          obtain ⟨d0, d1⟩ := HR.out.at_ hkl2
          have f0 := HR.out.frozen (k * 2)
          have f1 := HR.out.frozen (k * 2 + 1)
          have f2 := HR.out.frozen (q' * 2)
          have f3 := HR.out.frozen (q' * 2 + 1)
          rw [s2] at c0 c1
          rw [s1] at d0 d1
          rw [s1, s2, s3] at HSw
          have HGs := Lib.hid (fun v0 v1 v2 v3 p0 p1 p2 p3 => gb_trans HG.out (gb_swap (w := wr) (g := g) v0 v1 v2 v3 p0 p1 p2 p3))
          have HN3 := Lib.hid (HNx.out _ HSw.out.drew1 (gb_drew1 (HGs.out ..)))
          have hqk : (k : Int) - 1 = (q' : Int) := by omega
          have hlt1 : q' < k := by omega
          have hpk : p < k := by omega
          have hkn : k < n := by omega
          rw [hqk] at HN3
          simp only [cA, cB] at c0 c1 d0 d1 HN3
          clear s1 s2 s3 el e1 e2 hkl hkl2 HSw HGs HNx HLe HR HG hk hkq hq' hA
          generalize L2.getD u el0 = z at *
          go_wp2_with fail
          go_region
          go_wp2_with fail
          exact ⟨HN3.out, by simp [intOf]; omega⟩
        · have hkp : ¬ (p < k) := by omega
          have hte : t = 0 := by omega
          have HRe := Lib.hid (show RowE wr g cap (P1 ++ ([] ++ (y :: (L2 ++ S)))) by
            have := HR.out
            rw [hte] at this
            exact this)
          clear hk hte HR HTn
          go_wp2_with fail
          refine bodyPost_ret (results_none rfl _ _ _) rfl ?_
          exact ⟨rfl, by rw [HF.out]; exact HRe.out, HG.out⟩

end Go.Proofs.Ytnjcelilljniaaa
