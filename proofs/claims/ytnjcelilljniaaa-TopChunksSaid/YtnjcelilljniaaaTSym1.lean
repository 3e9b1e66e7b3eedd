/-
  Plain: what a search by halves finds in lists that are in order.
-/
import Derived.Test.YtnjcelilljniaaaTIns
namespace Go.Proofs.Ytnjcelilljniaaa
open Go.RowKit

theorem sorted_at {R : List El} (h : SortedL ltE R) {i j : Nat} (hij : i < j) (hj : j < R.length) : ltE (R.getD j el0) (R.getD i el0) = false := by
  have := List.pairwise_iff_getElem.1 h i j (by omega) hj hij
  simpa [List.getD, List.getElem?_eq_getElem hj, List.getElem?_eq_getElem (show i < R.length by omega)] using this
theorem sorted_le {R : List El} (h : SortedL ltE R) {i j : Nat} (hij : i ≤ j) (hj : j < R.length) : ltE (R.getD j el0) (R.getD i el0) = false := by
  rcases Nat.lt_or_ge i j with h' | h'
  · exact sorted_at h h' hj
  · rw [show i = j by omega]; exact ltE_weak.irr _
theorem mem_getD {R : List El} {x : El} (h : x ∈ R) : ∃ i, i < R.length ∧ R.getD i el0 = x := by
  obtain ⟨i, hi, rfl⟩ := List.mem_iff_getElem.1 h
  exact ⟨i, hi, by simp [List.getD, List.getElem?_eq_getElem hi]⟩
theorem take_mem {R : List El} {n : Nat} {x : El} (h : x ∈ R.take n) : ∃ i, i < n ∧ i < R.length ∧ R.getD i el0 = x := by
  obtain ⟨i, hi, e⟩ := mem_getD h
  rw [List.length_take] at hi
  exact ⟨i, by omega, by omega, by rw [← e]; simp [List.getD, List.getElem?_take, show i < n by omega]⟩
theorem drop_mem {R : List El} {n : Nat} {x : El} (h : x ∈ R.drop n) : ∃ i, n ≤ i ∧ i < R.length ∧ R.getD i el0 = x := by
  obtain ⟨i, hi, e⟩ := mem_getD h
  rw [List.length_drop] at hi
  exact ⟨n + i, by omega, by omega, by rw [← e]; simp [List.getD, List.getElem?_drop]⟩
theorem getD_left (A B : List El) {i : Nat} (h : i < A.length) : (A ++ B).getD i el0 = A.getD i el0 := by simp [List.getD, List.getElem?_append_left h]
theorem getD_right (A B : List El) {i j : Nat} (h : i = A.length + j) : (A ++ B).getD i el0 = B.getD j el0 := by
  subst h; simp [List.getD, List.getElem?_append_right]
theorem half_bd {i j : Nat} (h : i < j) : i ≤ (i + j) / 2 ∧ (i + j) / 2 < j := by omega

end Go.Proofs.Ytnjcelilljniaaa

/-
  slices.symMergeCmpFunc, one element ahead of others.
-/
namespace Go.Proofs.Ytnjcelilljniaaa
open Go.RowKit

/-- The search by halves for the first that x does not come behind. -/
def S1Rel (g cap : Nat) (l R : List El) (x : El) (m : Nat) (w : World) (i j : Value) (wr : World) : Prop :=
  ∃ p q : Nat, i = .int .i64 (p : Nat) ∧ j = .int .i64 (q : Nat) ∧ m ≤ p ∧ p ≤ q ∧ q ≤ m + R.length ∧ (∀ t, t < p - m → ltE (R.getD t el0) x = true) ∧ (∀ t, q - m ≤ t → t < R.length → ltE (R.getD t el0) x = false) ∧ RowE wr g cap l ∧ w.grownBy wr (some g)

/-- x has moved behind t of R1. -/
def K1Rel (g cap : Nat) (P R1 T : List El) (x : El) (a : Nat) (w : World) (k : Value) (wr : World) : Prop :=
  ∃ t : Nat, t ≤ R1.length ∧ k = .int .i64 (a + t : Nat) ∧ RowE wr g cap (P ++ (R1.take t ++ (x :: (R1.drop t ++ T)))) ∧ w.grownBy wr (some g)
theorem swap_next (A C : List El) (x z : El) (j : Nat) (hj : j = A.length) : (A ++ x :: z :: C).getD j el0 = x ∧ (A ++ x :: z :: C).getD (j + 1) el0 = z ∧ swapE (A ++ x :: z :: C) j (j + 1) = A ++ z :: x :: C := by
  subst hj
  refine ⟨getD_mid _ _ _, ?_, ?_⟩
  · have h := getD_mid (A ++ [x]) C z
    rw [List.append_assoc, List.cons_append, List.nil_append, List.length_append] at h
    exact h
  · have h := swapE_mid A [] C x z
    simpa using h

set_option maxRecDepth 100000 in
set_option maxHeartbeats 4000000 in
theorem sym1_any {g cap : Nat} (P : List El) (x : El) (R S : List El) {l : List El} (a m b n : Nat) (w : World) (h : RowE w g cap l) (hl : l = P ++ (x :: (R ++ S))) (ha : a = P.length) (hm : m = a + 1) (hb : b = m + R.length) (hn : n = l.length) (hle : n ≤ 1000000) (hs : SortedL ltE R) :
    Calls Try.prog 75 #[.slice (some ⟨g, 0, none⟩) n cap, .int .i64 a, .int .i64 m, .int .i64 b, cmpV] w
      fun e w' => e = .returned (.tuple #[]) ∧ RowE w' g cap (P ++ (mergeL ltE [x] R ++ S)) ∧ w.grownBy w' (some g) := by
  have HS0 := Lib.hid (show S1Rel g cap l R x m w (.int .i64 m) (.int .i64 b) w from ⟨m, b, rfl, rfl, Nat.le_refl _, by omega, by omega, fun t ht => by omega, fun t h1 h2 => by omega, h, gb_refl _ _⟩)
  have hcap := h.1
  have hbn : b ≤ n := by rw [hn, hl]; simp; omega
  have hnc : n ≤ cap := by rw [hn]; exact hcap
  have hax : l.getD a el0 = x := by rw [hl, ha]; exact getD_mid _ _ _
  have HRt := Lib.hid (fun t (ht : m ≤ t) (h2 : t < b) => show l.getD t el0 = R.getD (t - m) el0 by
    rw [hl, show P ++ (x :: (R ++ S)) = (P ++ [x]) ++ (R ++ S) by simp, getD_right (j := t - m) _ _ (by simp; omega), getD_left _ _ (by omega)])
  have HAx := Lib.hid hax
  have HLl := Lib.hid hn
  have HL := Lib.hid hl
  have HP := Lib.hid ha
  have HBr := Lib.hid hb
  have HSo := Lib.hid hs
  have hma : m ≤ a + 1 := by omega
  have ham : a < m := by omega
  have hmb : m ≤ b := by omega
  have h1 : ((m : Int) - (a : Int) == 1) = true := by rw [beq_iff_eq]; omega
  unfold cmpV
  clear h hl ha hm hb hn hcap hs hax
  go_enter Try.func75, Try.ntmps75
  go_wp2_with fail
  go_loopw [10, 11] (fun i j wr => S1Rel g cap l R x m w i j wr) (fun i j _ => (intOf j).toNat - (intOf i).toNat)
  case atStart => exact HS0.out
  case round =>
    clear HS0
    obtain ⟨p, q, rfl, rfl, hp1, hpq, hq1, hlo, hhi, hrow, hgb⟩ := hrel
    have HR := Lib.hid hrow
    have HG := Lib.hid hgb
    have HLo := Lib.hid hlo
    have HHi := Lib.hid hhi
    have hqb : q ≤ b := by have := HBr.out; omega
    clear hrow hgb hlo hhi hq1
    by_cases hlt : p < q
    · obtain ⟨h, hh⟩ : ∃ h, h = (p + q) / 2 := ⟨_, rfl⟩
      have hmid : ((p : Int) + (q : Int)) / 2 = (h : Int) := by omega
      have hph : p ≤ h := by omega
      have hhq : h < q := by omega
      have hmh : m ≤ h := by omega
      have hhb : h < b := by omega
      have hlh : h < l.length := by rw [← HLl.out]; omega
      have hla : a < l.length := by rw [← HLl.out]; omega
      obtain ⟨c0, c1⟩ := HR.out.at_ hlh
      obtain ⟨d0, d1⟩ := HR.out.at_ hla
      rw [HRt.out h hmh hhb] at c0 c1
      rw [HAx.out] at d0 d1
      have hRh : h - m < R.length := by have := HBr.out; omega
      have HNy := Lib.hid (fun w' (hl : ltE (R.getD (h - m) el0) x = true) (h1 : RowE w' g cap l) (h2 : w.grownBy w' (some g)) => show S1Rel g cap l R x m w (.int .i64 ((h : Int) + 1)) (.int .i64 q) w' from
        ⟨h + 1, q, by go_num, rfl, by omega, by omega, by have := HBr.out; omega, fun t ht => ltE_weak.le_lt (sorted_le HSo.out (show t ≤ h - m by omega) hRh) hl, HHi.out, h1, h2⟩)
      have HNn := Lib.hid (fun w' (hl : ltE (R.getD (h - m) el0) x = false) (h1 : RowE w' g cap l) (h2 : w.grownBy w' (some g)) => show S1Rel g cap l R x m w (.int .i64 p) (.int .i64 h) w' from
        ⟨p, h, rfl, rfl, hp1, hph, by have := HBr.out; omega, HLo.out, fun t h1 h2 => ltE_weak.neg _ _ _ (sorted_le HSo.out h1 h2) hl, h1, h2⟩)
      have HCm := Lib.hid (fun w => cmpS_any (R.getD (h - m) el0) x w)
      have hgl := HR.out.lt
      have HRF := Lib.hid (fun w' (hb : Below wr.heap.size wr w') => HR.out.below hb hgl)
      have HGF := Lib.hid (fun w' (hb : Below wr.heap.size wr w') => gb_trans HG.out (gb_of_below hb (some g)))
      simp only [cA, cB] at c0 c1 d0 d1 HCm
      have hz1 : (0 : Int) ≤ (h : Int) := by omega
      have hz2 : (h : Int) < (n : Int) := by omega
      have hz3 : (0 : Int) ≤ (a : Int) := by omega
      have hz4 : (a : Int) < (n : Int) := by omega
      have hhn : h < n := by omega
      have han : a < n := by omega
      clear hh hlh hla hRh HLo HHi HRt HAx
      generalize R.getD (h - m) el0 = y at *
      cases hl : ltE y x with
      | true =>
        have hc := cmpE_lt hl
        rw [hc] at HCm
        have HN := Lib.hid (fun w' h1 h2 => HNy.out w' hl h1 h2)
        clear hc hl HNy HNn
        go_wp2_with fail
        go_region_held3 (fun w' => w'.cell? ⟨g, h * 2, none⟩ = some (.int .i64 y.1) ∧ w'.cell? ⟨g, h * 2 + 1, none⟩ = some (.int .i64 y.2) ∧ w'.cell? ⟨g, a * 2, none⟩ = some (.int .i64 x.1) ∧ w'.cell? ⟨g, a * 2 + 1, none⟩ = some (.int .i64 x.2))
          (first | exact keepE (by assumption) hb1 | go_keep)
          (first | (go_at_call 43; refine (HCm.out _).mono ?_; rintro e w2 ⟨rfl, hb1⟩))
        have hd1 := drE hb1
        have HN3 := Lib.hid (HN.out _ (HRF.out _ hd1) (HGF.out _ hd1))
        clear hb1 hd1 HRF HGF HCm HR HG HN
        go_wp2_with fail
        exact ⟨HN3.out, by simp [intOf]; omega⟩
      | false =>
        have hc := cmpE_ge hl
        have HN := Lib.hid (fun w' h1 h2 => HNn.out w' hl h1 h2)
        generalize cmpE y x = cc at *
        have hc2 : decide (cc < 0) = false := by simp; omega
        clear hl HNy HNn
        go_wp2_with fail
        go_region_held3 (fun w' => w'.cell? ⟨g, h * 2, none⟩ = some (.int .i64 y.1) ∧ w'.cell? ⟨g, h * 2 + 1, none⟩ = some (.int .i64 y.2) ∧ w'.cell? ⟨g, a * 2, none⟩ = some (.int .i64 x.1) ∧ w'.cell? ⟨g, a * 2 + 1, none⟩ = some (.int .i64 x.2))
          (first | exact keepE (by assumption) hb1 | go_keep)
          (first | (go_at_call 43; refine (HCm.out _).mono ?_; rintro e w2 ⟨rfl, hb1⟩))
        have hd1 := drE hb1
        have HN3 := Lib.hid (HN.out _ (HRF.out _ hd1) (HGF.out _ hd1))
        clear hb1 hd1 HRF HGF HCm HR HG HN
        go_wp2_with fail
        exact ⟨HN3.out, by simp [intOf]; omega⟩
    · have hpe : p = q := by omega
      have HM := Lib.hid (show mergeL ltE [x] R = R.take (p - m) ++ x :: R.drop (p - m) by
        conv => lhs; rw [← List.take_append_drop (p - m) R]
        refine merge_one_front (fun y hy => ?_) (fun y hy => ?_)
        · obtain ⟨t, h1, _, rfl⟩ := take_mem hy
          exact HLo.out t h1
        · obtain ⟨t, h1, h2, rfl⟩ := drop_mem hy
          exact HHi.out t (by omega) h2)
      have hl1 : (R.take (p - m)).length = p - m := by rw [List.length_take]; have := HBr.out; omega
      have HLn2 := Lib.hid (show P.length + 1 + R.length + S.length = n by rw [HLl.out, HL.out]; simp; omega)
      have hpb : p ≤ b := by omega
      clear hpe HLo HHi HRt HAx HSo
      have HRx := Lib.hid (show RowE wr g cap (P ++ ([] ++ (x :: (R.take (p - m) ++ (R.drop (p - m) ++ S))))) by
        have := HR.out; rw [HL.out] at this; rw [← List.append_assoc (R.take _), List.take_append_drop]; exact this)
      have HF := Lib.hid (show P ++ (mergeL ltE [x] R ++ S) = P ++ (R.take (p - m) ++ (x :: (R.drop (p - m) ++ S))) by rw [HM.out]; simp)
      clear HM HR
      generalize R.take (p - m) = R1 at *
      have HTl := Lib.hid (show P.length + 1 + (p - m) + (R.drop (p - m) ++ S).length = n by rw [← HLn2.out]; simp; have := HBr.out; omega)
      generalize R.drop (p - m) ++ S = T at *
      have HK0 := Lib.hid (show K1Rel g cap P R1 T x a w (.int .i64 a) wr from ⟨0, Nat.zero_le _, by rw [Nat.add_zero], HRx.out, HG.out⟩)
      have hp1' : 1 ≤ p := by omega
      have HTn := Lib.hid (fun t (ht : t ≤ R1.length) => show (P ++ (R1.take t ++ (x :: (R1.drop t ++ T)))).length = n by
        have := HTl.out
        simp only [List.length_append, List.length_cons, List.length_take, List.length_drop]
        omega)
      clear HRx HG
      go_wp2_with fail
      go_loopw [13] (fun k wr => K1Rel g cap P R1 T x a w k wr) (fun k _ => p - (intOf k).toNat)
      case atStart => exact HK0.out
      case round =>
        clear HK0
        obtain ⟨t, ht, rfl, hrow, hgb⟩ := hrel
        have HR := Lib.hid hrow
        have HG := Lib.hid hgb
        clear hrow hgb
        obtain ⟨k, hk⟩ : ∃ k, k = a + t := ⟨_, rfl⟩
        rw [← hk]
        by_cases htl : t < R1.length
        · obtain ⟨e1, e2⟩ := take_snocE htl
          have HLe := Lib.hid (HTn.out t ht)
          have HNx := Lib.hid (fun w' (h1 : RowE w' g cap ((P ++ R1.take t) ++ R1.getD t el0 :: x :: (R1.drop (t + 1) ++ T))) (h2 : w.grownBy w' (some g)) => show K1Rel g cap P R1 T x a w (.int .i64 ((k : Int) + 1)) w' from
            ⟨t + 1, by omega, by rw [hk]; go_num, by rw [e1]; simpa using h1, h2⟩)
          rw [e2] at HR HLe
          have el : P ++ (R1.take t ++ (x :: ((R1.getD t el0 :: R1.drop (t + 1)) ++ T))) = (P ++ R1.take t) ++ x :: R1.getD t el0 :: (R1.drop (t + 1) ++ T) := by simp
          rw [el] at HR HLe
          obtain ⟨s1, s2, s3⟩ := swap_next (P ++ R1.take t) (R1.drop (t + 1) ++ T) x (R1.getD t el0) k (by rw [hk, List.length_append, List.length_take, HP.out]; omega)
          have hkp : k + 1 < p := by omega
          have hkl : k < ((P ++ R1.take t) ++ x :: R1.getD t el0 :: (R1.drop (t + 1) ++ T)).length := by rw [HLe.out]; omega
          have hkl2 : k + 1 < ((P ++ R1.take t) ++ x :: R1.getD t el0 :: (R1.drop (t + 1) ++ T)).length := by rw [HLe.out]; omega
          have HSw := Lib.hid (HR.out.swap hkl hkl2)
          obtain ⟨c0, c1⟩ := HR.out.at_ hkl
          obtain ⟨d0, d1⟩ := HR.out.at_ hkl2
          have f0 := HR.out.frozen (k * 2)
          have f1 := HR.out.frozen (k * 2 + 1)
          have f2 := HR.out.frozen ((k + 1) * 2)
          have f3 := HR.out.frozen ((k + 1) * 2 + 1)
          rw [s1] at c0 c1
          rw [s2] at d0 d1
          rw [s1, s2, s3] at HSw
          have HGs := Lib.hid (fun v0 v1 v2 v3 p0 p1 p2 p3 => gb_trans HG.out (gb_swap (w := wr) (g := g) v0 v1 v2 v3 p0 p1 p2 p3))
          have HN3 := Lib.hid (HNx.out _ HSw.out.drew1 (gb_drew1 (HGs.out ..)))
          obtain ⟨q, hq⟩ : ∃ q, q = k + 1 := ⟨_, rfl⟩
          rw [← hq] at d0 d1 f2 f3 HN3 hkp
          have hqk : (k : Int) + 1 = (q : Int) := by omega
          have hkq : k < q := by omega
          rw [hqk] at HN3
          have hqn : q < n := by omega
          simp only [cA, cB] at c0 c1 d0 d1 HN3
          clear s1 s2 s3 el e1 e2 hkl hkl2 HSw HGs HNx HLe HR HG hk hq
          generalize R1.getD t el0 = z at *
          go_wp2_with fail
          go_region
          go_wp2_with fail
          exact ⟨HN3.out, by simp [intOf]; omega⟩
        · have hkp : ¬ (k + 1 < p) := by omega
          have hte : t = R1.length := by omega
          have HRe := Lib.hid (show RowE wr g cap (P ++ (R1 ++ (x :: T))) by
            have := HR.out
            rw [hte, List.take_length, List.drop_length] at this
            exact this)
          clear hk hte HR HTn
          go_wp2_with fail
          refine bodyPost_ret (results_none rfl _ _ _) rfl ?_
          exact ⟨rfl, by rw [HF.out]; exact HRe.out, HG.out⟩

end Go.Proofs.Ytnjcelilljniaaa
