/-
  slices.insertionSortCmpFunc.
-/
import Derived.Test.YtheenlomlmbjaaaGreatDoorTCmp
set_option linter.unusedSimpArgs false
set_option linter.unusedVariables false
namespace Go.Proofs.YtheenlomlmbjaaaGreatDoor
open Go.RowKit

theorem keepE {g p q : Nat} {a b c d : Value} {w w' : World} (h : w.cell? ⟨g, p, none⟩ = some a ∧ w.cell? ⟨g, p + 1, none⟩ = some b ∧ w.cell? ⟨g, q, none⟩ = some c ∧ w.cell? ⟨g, q + 1, none⟩ = some d) (hb : Below w.heap.size w w') :
    w'.cell? ⟨g, p, none⟩ = some a ∧ w'.cell? ⟨g, p + 1, none⟩ = some b ∧ w'.cell? ⟨g, q, none⟩ = some c ∧ w'.cell? ⟨g, q + 1, none⟩ = some d := by
  have hlt : g < w.heap.size := World.block_lt_of_cell? w _ h.1
  exact ⟨(hb.cell (p := ⟨g, p, none⟩) hlt).trans h.1, (hb.cell (p := ⟨g, p + 1, none⟩) hlt).trans h.2.1, (hb.cell (p := ⟨g, q, none⟩) hlt).trans h.2.2.1, (hb.cell (p := ⟨g, q + 1, none⟩) hlt).trans h.2.2.2⟩
theorem drE {w w2 : World} (h : Below w.drew.heap.size w.drew w2) : Below w.heap.size w w2 := (Below.refl _ _).drew.trans h
theorem gb_of_below {w w' : World} (h : Below w.heap.size w w') (pb : Option Nat) : w.grownBy w' pb := ⟨h.os, h.tape, h.output, h.size, fun k hk _ => h.block k hk⟩

def InsRel (g cap : Nat) (P D S : List El) (a : Nat) (w : World) (i : Value) (wr : World) : Prop :=
  ∃ k : Nat, 1 ≤ k ∧ (k ≤ D.length ∨ k = 1) ∧ i = .int .i64 (a + k : Nat) ∧ RowE wr g cap (P ++ (sortL ltE (D.take k) ++ (D.drop k ++ S))) ∧ w.grownBy wr (some g)
def BackRel (g cap : Nat) (P S1 : List El) (y : El) (T : List El) (a : Nat) (w : World) (j : Value) (wr : World) : Prop :=
  ∃ A B : List El, A ++ B = S1 ∧ j = .int .i64 (a + A.length : Nat) ∧ (∀ x ∈ B, ltE y x = true) ∧ RowE wr g cap (P ++ (A ++ (y :: (B ++ T)))) ∧ w.grownBy wr (some g)
theorem take_snocE {D : List El} {k : Nat} (h : k < D.length) : D.take (k + 1) = D.take k ++ [D.getD k el0] ∧ D.drop k = D.getD k el0 :: D.drop (k + 1) := by
  refine ⟨?_, ?_⟩
  · rw [List.take_add_one, List.getElem?_eq_getElem h]; simp [List.getD, List.getElem?_eq_getElem h]
  · rw [List.drop_eq_getElem_cons h]; simp [List.getD, List.getElem?_eq_getElem h]
theorem snoc_ex {A : List El} (h : A ≠ []) : ∃ A' z, A = A' ++ [z] := by
  obtain ⟨z, A', e⟩ : ∃ z A', A.reverse = z :: A' := by
    cases hr : A.reverse with
    | nil => exact absurd (by simpa using hr) h
    | cons z r => exact ⟨z, r, rfl⟩
  exact ⟨A'.reverse, z, by have := congrArg List.reverse e; simpa using this⟩

set_option maxRecDepth 100000 in
set_option maxHeartbeats 4000000 in
theorem insertion_any {g cap : Nat} (P D S : List El) {l : List El} (a b n : Nat) (w : World) (h : RowE w g cap l) (hl : l = P ++ (D ++ S)) (ha : a = P.length) (hb : b = P.length + D.length) (hn : n = l.length) (hle : n ≤ 1000000) :
    Calls Tryz.prog 239 #[.slice (some ⟨g, 0, none⟩) n cap, .int .i64 a, .int .i64 b, cmpV] w
      fun e w' => e = .returned (.tuple #[]) ∧ RowE w' g cap (P ++ (sortL ltE D ++ S)) ∧ w.grownBy w' (some g) := by
  have HS0 := Lib.hid (show InsRel g cap P D S a w (.int .i64 ((a : Int) + 1)) w from ⟨1, Nat.le_refl _, .inr rfl, by go_num, by
    have e : sortL ltE (D.take 1) = D.take 1 := by cases D with
      | nil => rfl
      | cons x r => simp [sortL, mergeL_nil_left]
    rw [e, ← List.append_assoc (D.take 1), List.take_append_drop, ← hl]; exact h, gb_refl _ _⟩)
  have HLn := Lib.hid (show P.length + D.length + S.length = n by rw [hn, hl]; simp; omega)
  have hcap := h.1
  have hab : a ≤ b := by omega
  have hbn : b ≤ n := by have := HLn.out; omega
  have hnc : n ≤ cap := by rw [hn]; exact hcap
  have HA := Lib.hid ha
  have HBd := Lib.hid (show b = a + D.length by omega)
  unfold cmpV
  clear h hl ha hb hn hcap
  go_enter Tryz.func239, Tryz.ntmps239
  go_wp2_with fail
  go_loopw [8] (fun i wr => InsRel g cap P D S a w i wr) (fun i _ => b - (intOf i).toNat)
  case atStart => exact HS0.out
  case round =>
    clear HS0
    obtain ⟨k, hk1, hk2, rfl, hrow, hgb⟩ := hrel
    have HR := Lib.hid hrow
    have HG := Lib.hid hgb
    clear hrow hgb
    obtain ⟨i, hi⟩ : ∃ i, i = a + k := ⟨_, rfl⟩
    rw [← hi]
    by_cases hlt : k < D.length
    · have hib : i < b := by have := HBd.out; omega
      obtain ⟨e1, e2⟩ := take_snocE hlt
      have HSn := Lib.hid (show sortL ltE (D.take (k + 1)) = mergeL ltE (sortL ltE (D.take k)) [D.getD k el0] by rw [e1, sortL_snoc])
      have HSo := Lib.hid (sortL_sorted ltE_weak (D.take k))
      have HSl := Lib.hid (show (sortL ltE (D.take k)).length = k by rw [sortL_len]; simp; omega)
      rw [e2] at HR
      have HTl := Lib.hid (show (D.drop (k + 1)).length = D.length - (k + 1) by simp)
      clear e1 e2
      generalize D.getD k el0 = y at *
      generalize sortL ltE (D.take k) = S1 at *
      have HB0 := Lib.hid (show BackRel g cap P S1 y (D.drop (k + 1) ++ S) a w (.int .i64 i) wr from ⟨S1, [], by simp, by rw [HSl.out, hi], (fun x hx => by cases hx), HR.out, HG.out⟩)
      have HFin := Lib.hid (fun A B w' (h0 : A ++ B = S1) (h1 : ∀ x ∈ A, ltE y x = false) (h2 : ∀ x ∈ B, ltE y x = true) (h3 : RowE w' g cap (P ++ (A ++ (y :: (B ++ (D.drop (k + 1) ++ S)))))) (h4 : w.grownBy w' (some g)) => show InsRel g cap P D S a w (.int .i64 ((i : Int) + 1)) w' from
        ⟨k + 1, by omega, .inl (by omega), by rw [hi]; go_num, by rw [HSn.out, ← h0, merge_one_back h1 h2]; simpa using h3, h4⟩)
      have HLen := Lib.hid (fun A B (h0 : A ++ B = S1) => show (P ++ (A ++ (y :: (B ++ (D.drop (k + 1) ++ S))))).length = n ∧ A.length ≤ k by
        have e := congrArg List.length h0
        rw [List.length_append, HSl.out] at e
        refine ⟨?_, by omega⟩
        simp only [List.length_append, List.length_cons, HTl.out]
        have := HLn.out
        omega)
      have hin : i ≤ n := by omega
      have hai : a < i := by omega
      have hik : i ≤ a + k := by omega
      have hki : a + k ≤ i := by omega
      clear hi HR HG HSn HTl HSl
      generalize D.drop (k + 1) ++ S = T at *
      go_wp2_with fail
      go_loopw [9] (fun j wr => BackRel g cap P S1 y T a w j wr) (fun j _ => (intOf j).toNat)
      case atStart => exact HB0.out
      case round =>
        clear HB0
        obtain ⟨A, B, hAB, rfl, hB2, hrow, hgb⟩ := hrel
        have HR := Lib.hid hrow
        have HG := Lib.hid hgb
        have HB2 := Lib.hid hB2
        have HAB := Lib.hid hAB
        obtain ⟨hln, hAk⟩ := HLen.out A B hAB
        have HLl := Lib.hid hln
        clear hrow hgb hB2 hln hAB
        by_cases hA0 : A = []
        · have HNx := Lib.hid (HFin.out A B wr HAB.out (by rw [hA0]; intro x hx; cases hx) HB2.out HR.out HG.out)
          have hja : decide ((a : Int) < ((a + A.length : Nat) : Int)) = false := by rw [hA0]; simp
          have hjb : decide (a < a + A.length) = false := by rw [hA0]; simp
          clear hA0
          generalize a + A.length = j at *
          have HNd := Lib.hid (fun d => show InsRel g cap P D S a w (.int .i64 ((i : Int) + 1)) (wr.drewN d) from by
            obtain ⟨k', p1, p2, p3, p4, p5⟩ := HNx.out
            exact ⟨k', p1, p2, p3, p4.drew d, gb_drewN p5 d⟩)
          go_wp2_with fail
          go_quiet (fail)
          go_wp2_with fail
          go_roundw
          case rel => exact HNd.out _
          case measure => simp [intOf]; omega
        · obtain ⟨A', z, rfl⟩ := snoc_ex hA0
          clear hA0
          have hAl : (A' ++ [z]).length = A'.length + 1 := by simp
          have el : P ++ ((A' ++ [z]) ++ (y :: (B ++ T))) = (P ++ A') ++ z :: ([] ++ y :: (B ++ T)) := by simp
          have hq : (P ++ A').length = a + A'.length := by rw [List.length_append, HA.out]
          obtain ⟨j, hj⟩ : ∃ j, j = a + (A' ++ [z]).length := ⟨_, rfl⟩
          obtain ⟨q, hq'⟩ : ∃ q, q = a + A'.length := ⟨_, rfl⟩
          have hjq : j = q + 1 := by omega
          have HLl' := Lib.hid (show ((P ++ A') ++ z :: ([] ++ y :: (B ++ T))).length = n by rw [← el]; exact HLl.out)
          have hjn : j < n := by have := HLl'.out; simp at this; have := HA.out; simp at hAl; omega
          have hqn : q < n := by omega
          rw [el] at HR
          have hzq : ((P ++ A') ++ z :: ([] ++ y :: (B ++ T))).getD q el0 = z := by rw [hq', ← hq]; exact getD_mid _ _ _
          have hyj : ((P ++ A') ++ z :: ([] ++ y :: (B ++ T))).getD j el0 = y := by
            have h := getD_mid ((P ++ A') ++ z :: []) (B ++ T) y
            rw [List.append_assoc, List.cons_append] at h
            rw [hjq, hq', ← hq, show (P ++ A').length + 1 = ((P ++ A') ++ z :: []).length by simp; omega]
            exact h
          have hsw : swapE ((P ++ A') ++ z :: ([] ++ y :: (B ++ T))) j q = P ++ (A' ++ (y :: ((z :: B) ++ T))) := by
            have h := swapE_mid (P ++ A') [] (B ++ T) z y
            rw [List.length_nil, hq, ← hq', Nat.add_zero, ← hjq] at h
            have hc : ∀ (l : List El) (i j : Nat), i ≠ j → swapE l j i = swapE l i j := by
              intro l i j hij
              unfold swapE
              rw [List.set_comm _ _ (fun e => hij e.symm)]
            rw [hc _ _ _ (by omega), h]; simp
          have hjl : j < ((P ++ A') ++ z :: ([] ++ y :: (B ++ T))).length := by rw [HLl'.out]; exact hjn
          have hql : q < ((P ++ A') ++ z :: ([] ++ y :: (B ++ T))).length := by rw [HLl'.out]; exact hqn
          obtain ⟨c0, c1⟩ := HR.out.at_ hjl
          obtain ⟨d0, d1⟩ := HR.out.at_ hql
          rw [hyj] at c0 c1
          rw [hzq] at d0 d1
          have HSw := Lib.hid (fun w' (h : RowE w' g cap ((P ++ A') ++ z :: ([] ++ y :: (B ++ T)))) => by have := h.swap hjl hql; rw [hyj, hzq, hsw] at this; exact this)
          have HNx := Lib.hid (fun w' (hl : ltE y z = true) (h1 : RowE w' g cap (P ++ (A' ++ (y :: ((z :: B) ++ T))))) (h2 : w.grownBy w' (some g)) => show BackRel g cap P S1 y T a w (.int .i64 q) w' from
            ⟨A', z :: B, by rw [← HAB.out]; simp, by rw [hq'], fun x hx => by (rcases List.mem_cons.1 hx with rfl | hx; exact hl; exact HB2.out x hx), h1, h2⟩)
          have HEx := Lib.hid (fun w' (hl : ltE y z = false) (h1 : RowE w' g cap ((P ++ A') ++ z :: ([] ++ y :: (B ++ T)))) (h2 : w.grownBy w' (some g)) => HFin.out (A' ++ [z]) B w' HAB.out (fun x hx => by
            rcases List.mem_append.1 hx with hx | hx
            · have hs : SortedL ltE ((A' ++ [z]) ++ B) := by rw [HAB.out]; exact HSo.out
              have hs2 := (List.pairwise_append.1 (List.pairwise_append.1 hs).1).2.2 x hx z (by simp)
              exact ltE_weak.neg _ _ _ hl hs2
            · simp at hx; rw [hx]; exact hl) HB2.out (by rw [el]; exact h1) h2)
          have hja : decide ((a : Int) < (j : Int)) = true := by simp; omega
          have hjb : decide (a < j) = true := by simp; omega
          have hqj : q < j := by omega
          have hz1 : (0 : Int) ≤ (q : Int) := by omega
          have hz2 : (q : Int) < (n : Int) := by omega
          have hz3 : (0 : Int) ≤ (j : Int) := by omega
          have hz4 : (j : Int) < (n : Int) := by omega
          have hz5 : (1 : Int) ≤ (j : Int) := by omega
          have hz6 : (0 : Int) ≤ (j : Int) - 1 := by omega
          have hz7 : (j : Int) - 1 < (n : Int) := by omega
          have hww : IntKind.i64.wrap ((j : Int) - 1) = (j : Int) - 1 := IntWalk.i64_in _ (by omega)
          have htn : ((j : Int) - 1).toNat = q := by omega
          have HCm := Lib.hid (fun w => cmpS_any y z w)
          have hgl := HR.out.lt
          have HRF := Lib.hid (fun w' (hb : Below wr.heap.size wr w') => HR.out.below hb hgl)
          have HGF := Lib.hid (fun w' (hb : Below wr.heap.size wr w') => gb_trans HG.out (gb_of_below hb (some g)))
          have hFf := Lib.hid (fun w' (hb : Below wr.heap.size wr w') i => (HR.out.below hb hgl).frozen i)
          simp only [cA, cB] at c0 c1 d0 d1 HSw HCm
          rw [← hj]
          clear el hq hj hq' hjq hzq hyj hsw hjl hql hAl HLl HLl' HFin HAB HB2 HSo
          cases hl : ltE y z with
          | true =>
            have hc := cmpE_lt hl
            rw [hc] at HCm
            have HNx1 := Lib.hid (fun w' h1 h2 => HNx.out w' hl h1 h2)
            clear hc hl HEx HNx
            go_wp2_with fail
            go_region_held3 (fun w' => w'.cell? ⟨g, j * 2, none⟩ = some (.int .i64 y.1) ∧ w'.cell? ⟨g, j * 2 + 1, none⟩ = some (.int .i64 y.2) ∧ w'.cell? ⟨g, q * 2, none⟩ = some (.int .i64 z.1) ∧ w'.cell? ⟨g, q * 2 + 1, none⟩ = some (.int .i64 z.2))
              (first | exact keepE (by assumption) hb1 | go_keep)
              (first | (go_at_call 107; refine (HCm.out _).mono ?_; rintro e w2 ⟨rfl, hb1⟩))
            have hd1 := drE hb1
            have HR2 := Lib.hid (HRF.out _ hd1)
            have HG2 := Lib.hid (HGF.out _ hd1)
            have HSw2 := Lib.hid (HSw.out _ HR2.out)
            have g0 := (hd1.cell (p := ⟨g, j * 2, none⟩) hgl).trans c0
            have g1 := (hd1.cell (p := ⟨g, j * 2 + 1, none⟩) hgl).trans c1
            have g2 := (hd1.cell (p := ⟨g, q * 2, none⟩) hgl).trans d0
            have g3 := (hd1.cell (p := ⟨g, q * 2 + 1, none⟩) hgl).trans d1
            have f0 := HR2.out.frozen (j * 2)
            have f1 := HR2.out.frozen (j * 2 + 1)
            have f2 := HR2.out.frozen (q * 2)
            have f3 := HR2.out.frozen (q * 2 + 1)
            have HGs := Lib.hid (fun v0 v1 v2 v3 p0 p1 p2 p3 => gb_trans HG2.out (gb_swap (w := w2) (g := g) v0 v1 v2 v3 p0 p1 p2 p3))
            have HN3 := Lib.hid (HNx1.out _ HSw2.out.drew1 (gb_drew1 (HGs.out ..)))
            clear hb1 hd1 c0 c1 d0 d1 HSw HRF HGF HCm HR HG HNx1
            go_wp2_with fail
            go_region
            go_wp2_with fail
            go_roundw
            case rel =>
              have ejq : (j : Int) - 1 = (q : Int) := by omega
              rw [ejq]; exact HN3.out
            case measure => simp [intOf]; omega
          | false =>
            have hc := cmpE_ge hl
            have HEx1 := Lib.hid (fun w' h1 h2 => HEx.out w' hl h1 h2)
            generalize cmpE y z = cc at *
            have hc2 : decide (cc < 0) = false := by simp; omega
            clear hl HEx HNx
            go_wp2_with fail
            go_region_held3 (fun w' => w'.cell? ⟨g, j * 2, none⟩ = some (.int .i64 y.1) ∧ w'.cell? ⟨g, j * 2 + 1, none⟩ = some (.int .i64 y.2) ∧ w'.cell? ⟨g, q * 2, none⟩ = some (.int .i64 z.1) ∧ w'.cell? ⟨g, q * 2 + 1, none⟩ = some (.int .i64 z.2))
              (first | exact keepE (by assumption) hb1 | go_keep)
              (first | (go_at_call 107; refine (HCm.out _).mono ?_; rintro e w2 ⟨rfl, hb1⟩))
            have hd1 := drE hb1
            have HN3 := Lib.hid (HEx1.out _ (HRF.out _ hd1) (HGF.out _ hd1))
            clear hb1 hd1 HRF HGF HCm HR HG HEx1 HSw
            go_wp2_with fail
            go_roundw
            case rel => exact HN3.out
            case measure => simp [intOf]; omega
    · have hib : ¬ (i < b) := by have := HBd.out; omega
      have HD := Lib.hid (show sortL ltE (D.take k) ++ (D.drop k ++ S) = sortL ltE D ++ S by
        have e : D.take k = D := List.take_of_length_le (by omega)
        rw [e, List.drop_of_length_le (by omega)]; rfl)
      rw [HD.out] at HR
      have hai : a ≤ i := by omega
      have hid : i ≤ a + 1 ∨ i ≤ b := by have := HBd.out; omega
      clear hi
      go_wp2_with fail
      go_end0
      exact ⟨rfl, HR.out, HG.out⟩

end Go.Proofs.YtheenlomlmbjaaaGreatDoor
