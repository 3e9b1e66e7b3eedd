/-
  Rows of series that are written in place, sorted by their ids: at most twelve.
-/
import Derived.Test.YtheenlomlmbjaaaGreatDoorTIns
import Derived.Test.YtheenlomlmbjaaaGreatDoorFSer
import Derived.BigRegion
import Derived.Test.YtheenlomlmbjaaaGreatDoorGBlock
import Derived.Outline
import Derived.Deep.DrawnRows
set_option linter.unusedSimpArgs false
set_option linter.unusedVariables false
namespace Go.Proofs.YtheenlomlmbjaaaGreatDoor.Sr
open Go.RowKit Go.Proofs.YtheenlomlmbjaaaGreatDoor

abbrev El := Sv
def el0 : El := sv0
def cA (x : El) : Value := .int .i64 x.1
def cB (x : El) : Value := .slice x.2.1 x.2.2.1 x.2.2.2
def encSE (x : El) : List Value := [cA x, cB x]

def RowE (w : World) (g cap : Nat) (l : List El) : Prop :=
  l.length ≤ cap ∧ cap ≤ maxLen ∧ ∃ cur : Array Value, w.heap[g]? = some (.cells cur 49 (0, 0)) ∧ cur.size = cap * 2 ∧ cur.toList.take (l.length * 2) = l.flatMap encSE
theorem RowE.lt {w : World} {g cap : Nat} {l : List El} (h : RowE w g cap l) : g < w.heap.size := by
  obtain ⟨_, _, cur, h4, _⟩ := h; exact lt_of_heap h4
theorem RowE.at_ {w : World} {g cap i : Nat} {l : List El} (h : RowE w g cap l) (hi : i < l.length) :
    w.cell? ⟨g, i * 2, none⟩ = some (cA (l.getD i el0)) ∧ w.cell? ⟨g, i * 2 + 1, none⟩ = some (cB (l.getD i el0)) := by
  obtain ⟨h2, h3, cur, h4, h5, h6⟩ := h
  have hc : ∀ j, j < 2 → w.cell? ⟨g, i * 2 + j, none⟩ = (encSE (l.getD i el0))[j]? := by
    intro j hj
    rw [cell_of_row w g _ cur _ (0, 0) h4, ← flat_at (enc := encSE) (k := 2) (fun _ => rfl) el0 l i j hi hj, ← h6, List.getElem?_take, if_pos (by omega)]
    simp
  exact ⟨hc 0 (by omega), hc 1 (by omega)⟩
theorem RowE.frozen {w : World} {g cap : Nat} {l : List El} (h : RowE w g cap l) (i : Nat) : w.frozen? ⟨g, i, none⟩ = false := by
  obtain ⟨_, _, cur, h4, _⟩ := h; exact Lib.frozen_of_heap h4 i
theorem RowE.below {w w' : World} {g cap B : Nat} {l : List El} (h : RowE w g cap l) (hb : Below B w w') (hg : g < B) : RowE w' g cap l := by
  obtain ⟨h2, h3, cur, h4, h5, h6⟩ := h
  exact ⟨h2, h3, cur, (hb.block g hg).trans h4, h5, h6⟩
theorem heap_setE {w : World} {b j : Nat} {v : Value} {cs : Array Value} {t : TypeId} (h : w.heap[b]? = some (.cells cs t (0, 0))) : (w.setCell ⟨b, j, none⟩ v).heap[b]? = some (.cells (cs.setIfInBounds j v) t (0, 0)) := by
  obtain ⟨hlt, hk⟩ := Array.getElem?_eq_some_iff.1 h
  show (w.heap.modify b _)[b]? = _
  rw [Array.getElem?_eq_getElem (by rw [Array.size_modify]; exact hlt), Array.getElem_modify_self, hk]
  rfl
theorem flat_setE {m : List El} {i : Nat} (x : El) (hi : i < m.length) : ((m.flatMap encSE).set (i * 2) (cA x)).set (i * 2 + 1) (cB x) = (m.set i x).flatMap encSE := by
  induction m generalizing i with
  | nil => simp at hi
  | cons y r ih =>
    cases i with
    | zero => simp [encSE]
    | succ j =>
      have e : (j + 1) * 2 = j * 2 + 1 + 1 := by omega
      have := ih (i := j) (by simpa using hi)
      simp only [List.flatMap_cons, encSE, e, List.cons_append, List.nil_append, List.set_cons_succ] at this ⊢
      rw [← this]
theorem RowE.set {w : World} {g cap i : Nat} {l : List El} (h : RowE w g cap l) (x : El) (hi : i < l.length) :
    RowE ((w.setCell ⟨g, i * 2, none⟩ (cA x)).setCell ⟨g, i * 2 + 1, none⟩ (cB x)) g cap (l.set i x) := by
  obtain ⟨h2, h3, cur, h4, h5, h6⟩ := h
  refine ⟨by rw [List.length_set]; exact h2, h3, _, heap_setE (heap_setE h4), by simp [h5], ?_⟩
  rw [List.length_set, ← flat_setE x hi, ← h6]
  simp only [Array.toList_setIfInBounds]
  rw [List.take_set, List.take_set]
def swapE (l : List El) (i j : Nat) : List El := (l.set i (l.getD j el0)).set j (l.getD i el0)
theorem RowE.swap {w : World} {g cap i j : Nat} {l : List El} (h : RowE w g cap l) (hi : i < l.length) (hj : j < l.length) :
    RowE ((((w.setCell ⟨g, i * 2, none⟩ (cA (l.getD j el0))).setCell ⟨g, i * 2 + 1, none⟩ (cB (l.getD j el0))).setCell ⟨g, j * 2, none⟩ (cA (l.getD i el0))).setCell ⟨g, j * 2 + 1, none⟩ (cB (l.getD i el0))) g cap (swapE l i j) :=
  (h.set _ hi).set _ (by rw [List.length_set]; exact hj)
theorem swapE_len (l : List El) (i j : Nat) : (swapE l i j).length = l.length := by simp [swapE]
theorem getD_mid (A B : List El) (x : El) : (A ++ x :: B).getD A.length el0 = x := by simp [List.getD]
theorem set_mid (A B : List El) (x y : El) : (A ++ x :: B).set A.length y = A ++ y :: B := by simp
theorem swapE_mid (A B C : List El) (x y : El) : swapE (A ++ x :: (B ++ y :: C)) A.length (A.length + 1 + B.length) = A ++ y :: (B ++ x :: C) := by
  have e1 : (A ++ x :: (B ++ y :: C)).getD A.length el0 = x := getD_mid _ _ _
  have e2 : (A ++ x :: (B ++ y :: C)).getD (A.length + 1 + B.length) el0 = y := by
    have h := getD_mid (A ++ x :: B) C y
    rw [List.append_assoc, List.cons_append] at h
    rw [show A.length + 1 + B.length = (A ++ x :: B).length by simp; omega]
    exact h
  unfold swapE
  rw [e1, e2, set_mid]
  have h := set_mid (A ++ y :: B) C y x
  rw [List.append_assoc, List.cons_append, List.append_assoc, List.cons_append] at h
  rw [show A.length + 1 + B.length = (A ++ y :: B).length by simp; omega]
  exact h
theorem RowE.drew {w : World} {g cap : Nat} {l : List El} (h : RowE w g cap l) (n : Nat) : RowE (w.drewN n) g cap l := h
theorem RowE.drew1 {w : World} {g cap : Nat} {l : List El} (h : RowE w g cap l) : RowE w.drew g cap l := h

def ltE (x y : El) : Bool := decide (x.1 < y.1)
theorem ltE_weak : Weak ltE := ⟨fun x y h => by simp [ltE] at *; omega, fun x y z h1 h2 => by simp [ltE] at *; omega⟩
def cmpE (x y : El) : Int := if ltE x y then -1 else if ltE y x then 1 else 0
theorem cmpE_lt {x y : El} (h : ltE x y = true) : cmpE x y = -1 := by unfold cmpE; rw [if_pos h]
theorem cmpE_ge {x y : El} (h : ltE x y = false) : 0 ≤ cmpE x y := by unfold cmpE; rw [if_neg (by rw [h]; exact Bool.false_ne_true)]; split <;> omega
def cmpV : Value := .func (.func 110) #[] #[]
theorem cmpE_int (x y : El) : cmpE x y = cmpI x.1 y.1 := by simp [cmpE, ltE, cmpI]
theorem cmpS_any (x y : El) (w : World) :
    Calls Tryz.prog 110 #[.agg #[cA x, cB x], .agg #[cA y, cB y]] w fun e w' => e = .returned (.int .i64 (cmpE x y)) ∧ Below w.heap.size w w' := by
  rw [cmpE_int]
  exact byID_any x.1 y.1 _ _ _ _ _ _ w

theorem keepE {g p q : Nat} {a b c d : Value} {w w' : World} (h : w.cell? ⟨g, p, none⟩ = some a ∧ w.cell? ⟨g, p + 1, none⟩ = some b ∧ w.cell? ⟨g, q, none⟩ = some c ∧ w.cell? ⟨g, q + 1, none⟩ = some d) (hb : Below w.heap.size w w') :
    w'.cell? ⟨g, p, none⟩ = some a ∧ w'.cell? ⟨g, p + 1, none⟩ = some b ∧ w'.cell? ⟨g, q, none⟩ = some c ∧ w'.cell? ⟨g, q + 1, none⟩ = some d := by
  have hlt : g < w.heap.size := World.block_lt_of_cell? w _ h.1
  exact ⟨(hb.cell (p := ⟨g, p, none⟩) hlt).trans h.1, (hb.cell (p := ⟨g, p + 1, none⟩) hlt).trans h.2.1, (hb.cell (p := ⟨g, q, none⟩) hlt).trans h.2.2.1, (hb.cell (p := ⟨g, q + 1, none⟩) hlt).trans h.2.2.2⟩
theorem drE {w w2 : World} (h : Below w.drew.heap.size w.drew w2) : Below w.heap.size w w2 := (Below.refl _ _).drew.trans h
theorem gb_of_below {w w' : World} (h : Below w.heap.size w w') (pb : Option Nat) : w.grownBy w' pb := ⟨h.os, h.tape, h.output, h.size, fun k hk _ => h.block k hk⟩

def InsRel (g cap : Nat) (P D S : List El) (a : Nat) (w : World) (i : Value) (wr : World) : Prop :=
  ∃ k : Nat, 1 ≤ k ∧ (k ≤ D.length ∨ k = 1) ∧ i = .int .i64 (a + k : Nat) ∧ RowE wr g cap (P ++ (sortL ltE (D.take k) ++ (D.drop k ++ S))) ∧ w.grownBy wr (some g)
def BackRel (g cap : Nat) (P S1 : List El) (y : El) (T : List El) (a : Nat) (w : World) (j : Value) (wr : World) : Prop :=
  ∃ A B : List El, A ++ B = S1 ∧ j = .int .i64 (a + A.length : Nat) ∧ (∀ x ∈ B, ltE y x = true) ∧ RowE wr g cap (P ++ (A ++ (y :: (B ++ T)))) ∧ w.grownBy wr (some g)
theorem take_snocE {D : List El} {k : Nat} (h : k < D.length) : D.take (k + 1) = D.take k ++ [D.getD k el0] ∧ D.drop k = D.getD k el0 :: D.drop (k + 1) := by
  refine ⟨?_, ?_⟩
  · rw [List.take_add_one, List.getElem?_eq_getElem h]; simp [List.getD, List.getElem?_eq_getElem h]
  · rw [List.drop_eq_getElem_cons h]; simp [List.getD, List.getElem?_eq_getElem h]
theorem snoc_ex {A : List El} (h : A ≠ []) : ∃ A' z, A = A' ++ [z] := by
  obtain ⟨z, A', e⟩ : ∃ z A', A.reverse = z :: A' := by
    cases hr : A.reverse with
    | nil => exact absurd (by simpa using hr) h
    | cons z r => exact ⟨z, r, rfl⟩
  exact ⟨A'.reverse, z, by have := congrArg List.reverse e; simpa using this⟩

set_option maxRecDepth 100000 in
set_option maxHeartbeats 4000000 in
theorem insertion_any {g cap : Nat} (P D S : List El) {l : List El} (a b n : Nat) (w : World) (h : RowE w g cap l) (hl : l = P ++ (D ++ S)) (ha : a = P.length) (hb : b = P.length + D.length) (hn : n = l.length) (hle : n ≤ 1000000) :
    Calls Tryz.prog 241 #[.slice (some ⟨g, 0, none⟩) n cap, .int .i64 a, .int .i64 b, cmpV] w
      fun e w' => e = .returned (.tuple #[]) ∧ RowE w' g cap (P ++ (sortL ltE D ++ S)) ∧ w.grownBy w' (some g) := by
  have HS0 := Lib.hid (show InsRel g cap P D S a w (.int .i64 ((a : Int) + 1)) w from ⟨1, Nat.le_refl _, .inr rfl, by go_num, by
    have e : sortL ltE (D.take 1) = D.take 1 := by cases D with
      | nil => rfl
      | cons x r => simp [sortL, mergeL_nil_left]
    rw [e, ← List.append_assoc (D.take 1), List.take_append_drop, ← hl]; exact h, gb_refl _ _⟩)
  have HLn := Lib.hid (show P.length + D.length + S.length = n by rw [hn, hl]; simp; omega)
  have hcap := h.1
  have hab : a ≤ b := by omega
  have hbn : b ≤ n := by have := HLn.out; omega
  have hnc : n ≤ cap := by rw [hn]; exact hcap
  have HA := Lib.hid ha
  have HBd := Lib.hid (show b = a + D.length by omega)
  unfold cmpV
  clear h hl ha hb hn hcap
  go_enter Tryz.func241, Tryz.ntmps241
  go_wp2_with fail
  go_loopw [8] (fun i wr => InsRel g cap P D S a w i wr) (fun i _ => b - (intOf i).toNat)
  case atStart => exact HS0.out
  case round =>
    clear HS0
    obtain ⟨k, hk1, hk2, rfl, hrow, hgb⟩ := hrel
    have HR := Lib.hid hrow
    have HG := Lib.hid hgb
    clear hrow hgb
    obtain ⟨i, hi⟩ : ∃ i, i = a + k := ⟨_, rfl⟩
    rw [← hi]
    by_cases hlt : k < D.length
    · have hib : i < b := by have := HBd.out; omega
      obtain ⟨e1, e2⟩ := take_snocE hlt
      have HSn := Lib.hid (show sortL ltE (D.take (k + 1)) = mergeL ltE (sortL ltE (D.take k)) [D.getD k el0] by rw [e1, sortL_snoc])
      have HSo := Lib.hid (sortL_sorted ltE_weak (D.take k))
      have HSl := Lib.hid (show (sortL ltE (D.take k)).length = k by rw [sortL_len]; simp; omega)
      rw [e2] at HR
      have HTl := Lib.hid (show (D.drop (k + 1)).length = D.length - (k + 1) by simp)
      clear e1 e2
      generalize D.getD k el0 = y at *
      generalize sortL ltE (D.take k) = S1 at *
      have HB0 := Lib.hid (show BackRel g cap P S1 y (D.drop (k + 1) ++ S) a w (.int .i64 i) wr from ⟨S1, [], by simp, by rw [HSl.out, hi], (fun x hx => by cases hx), HR.out, HG.out⟩)
      have HFin := Lib.hid (fun A B w' (h0 : A ++ B = S1) (h1 : ∀ x ∈ A, ltE y x = false) (h2 : ∀ x ∈ B, ltE y x = true) (h3 : RowE w' g cap (P ++ (A ++ (y :: (B ++ (D.drop (k + 1) ++ S)))))) (h4 : w.grownBy w' (some g)) => show InsRel g cap P D S a w (.int .i64 ((i : Int) + 1)) w' from
        ⟨k + 1, by omega, .inl (by omega), by rw [hi]; go_num, by rw [HSn.out, ← h0, merge_one_back h1 h2]; simpa using h3, h4⟩)
      have HLen := Lib.hid (fun A B (h0 : A ++ B = S1) => show (P ++ (A ++ (y :: (B ++ (D.drop (k + 1) ++ S))))).length = n ∧ A.length ≤ k by
        have e := congrArg List.length h0
        rw [List.length_append, HSl.out] at e
        refine ⟨?_, by omega⟩
        simp only [List.length_append, List.length_cons, HTl.out]
        have := HLn.out
        omega)
      have hin : i ≤ n := by omega
      have hai : a < i := by omega
      have hik : i ≤ a + k := by omega
      have hki : a + k ≤ i := by omega
      clear hi HR HG HSn HTl HSl
      generalize D.drop (k + 1) ++ S = T at *
      go_wp2_with fail
      go_loopw [9] (fun j wr => BackRel g cap P S1 y T a w j wr) (fun j _ => (intOf j).toNat)
      case atStart => exact HB0.out
      case round =>
        clear HB0
        obtain ⟨A, B, hAB, rfl, hB2, hrow, hgb⟩ := hrel
        have HR := Lib.hid hrow
        have HG := Lib.hid hgb
        have HB2 := Lib.hid hB2
        have HAB := Lib.hid hAB
        obtain ⟨hln, hAk⟩ := HLen.out A B hAB
        have HLl := Lib.hid hln
        clear hrow hgb hB2 hln hAB
        by_cases hA0 : A = []
        · have HNx := Lib.hid (HFin.out A B wr HAB.out (by rw [hA0]; intro x hx; cases hx) HB2.out HR.out HG.out)
          have hja : decide ((a : Int) < ((a + A.length : Nat) : Int)) = false := by rw [hA0]; simp
          have hjb : decide (a < a + A.length) = false := by rw [hA0]; simp
          clear hA0
          generalize a + A.length = j at *
          have HNd := Lib.hid (fun d => show InsRel g cap P D S a w (.int .i64 ((i : Int) + 1)) (wr.drewN d) from by
            obtain ⟨k', p1, p2, p3, p4, p5⟩ := HNx.out
            exact ⟨k', p1, p2, p3, p4.drew d, gb_drewN p5 d⟩)
          go_wp2_with fail
          go_quiet (fail)
          go_wp2_with fail
          go_roundw
          case rel => exact HNd.out _
          case measure => simp [intOf]; omega
        · obtain ⟨A', z, rfl⟩ := snoc_ex hA0
          clear hA0
          have hAl : (A' ++ [z]).length = A'.length + 1 := by simp
          have el : P ++ ((A' ++ [z]) ++ (y :: (B ++ T))) = (P ++ A') ++ z :: ([] ++ y :: (B ++ T)) := by simp
          have hq : (P ++ A').length = a + A'.length := by rw [List.length_append, HA.out]
          obtain ⟨j, hj⟩ : ∃ j, j = a + (A' ++ [z]).length := ⟨_, rfl⟩
          obtain ⟨q, hq'⟩ : ∃ q, q = a + A'.length := ⟨_, rfl⟩
          have hjq : j = q + 1 := by omega
          have HLl' := Lib.hid (show ((P ++ A') ++ z :: ([] ++ y :: (B ++ T))).length = n by rw [← el]; exact HLl.out)
          have hjn : j < n := by have := HLl'.out; simp at this; have := HA.out; simp at hAl; omega
          have hqn : q < n := by omega
          rw [el] at HR
          have hzq : ((P ++ A') ++ z :: ([] ++ y :: (B ++ T))).getD q el0 = z := by rw [hq', ← hq]; exact getD_mid _ _ _
          have hyj : ((P ++ A') ++ z :: ([] ++ y :: (B ++ T))).getD j el0 = y := by
            have h := getD_mid ((P ++ A') ++ z :: []) (B ++ T) y
            rw [List.append_assoc, List.cons_append] at h
            rw [hjq, hq', ← hq, show (P ++ A').length + 1 = ((P ++ A') ++ z :: []).length by simp; omega]
            exact h
          have hsw : swapE ((P ++ A') ++ z :: ([] ++ y :: (B ++ T))) j q = P ++ (A' ++ (y :: ((z :: B) ++ T))) := by
            have h := swapE_mid (P ++ A') [] (B ++ T) z y
            rw [List.length_nil, hq, ← hq', Nat.add_zero, ← hjq] at h
            have hc : ∀ (l : List El) (i j : Nat), i ≠ j → swapE l j i = swapE l i j := by
              intro l i j hij
              unfold swapE
              rw [List.set_comm _ _ (fun e => hij e.symm)]
            rw [hc _ _ _ (by omega), h]; simp
          have hjl : j < ((P ++ A') ++ z :: ([] ++ y :: (B ++ T))).length := by rw [HLl'.out]; exact hjn
          have hql : q < ((P ++ A') ++ z :: ([] ++ y :: (B ++ T))).length := by rw [HLl'.out]; exact hqn
          obtain ⟨c0, c1⟩ := HR.out.at_ hjl
          obtain ⟨d0, d1⟩ := HR.out.at_ hql
          rw [hyj] at c0 c1
          rw [hzq] at d0 d1
          have HSw := Lib.hid (fun w' (h : RowE w' g cap ((P ++ A') ++ z :: ([] ++ y :: (B ++ T)))) => by have := h.swap hjl hql; rw [hyj, hzq, hsw] at this; exact this)
          have HNx := Lib.hid (fun w' (hl : ltE y z = true) (h1 : RowE w' g cap (P ++ (A' ++ (y :: ((z :: B) ++ T))))) (h2 : w.grownBy w' (some g)) => show BackRel g cap P S1 y T a w (.int .i64 q) w' from
            ⟨A', z :: B, by rw [← HAB.out]; simp, by rw [hq'], fun x hx => by (rcases List.mem_cons.1 hx with rfl | hx; exact hl; exact HB2.out x hx), h1, h2⟩)
          have HEx := Lib.hid (fun w' (hl : ltE y z = false) (h1 : RowE w' g cap ((P ++ A') ++ z :: ([] ++ y :: (B ++ T)))) (h2 : w.grownBy w' (some g)) => HFin.out (A' ++ [z]) B w' HAB.out (fun x hx => by
            rcases List.mem_append.1 hx with hx | hx
            · have hs : SortedL ltE ((A' ++ [z]) ++ B) := by rw [HAB.out]; exact HSo.out
              have hs2 := (List.pairwise_append.1 (List.pairwise_append.1 hs).1).2.2 x hx z (by simp)
              exact ltE_weak.neg _ _ _ hl hs2
            · simp at hx; rw [hx]; exact hl) HB2.out (by rw [el]; exact h1) h2)
          have hja : decide ((a : Int) < (j : Int)) = true := by simp; omega
          have hjb : decide (a < j) = true := by simp; omega
          have hqj : q < j := by omega
          have hz1 : (0 : Int) ≤ (q : Int) := by omega
          have hz2 : (q : Int) < (n : Int) := by omega
          have hz3 : (0 : Int) ≤ (j : Int) := by omega
          have hz4 : (j : Int) < (n : Int) := by omega
          have hz5 : (1 : Int) ≤ (j : Int) := by omega
          have hz6 : (0 : Int) ≤ (j : Int) - 1 := by omega
          have hz7 : (j : Int) - 1 < (n : Int) := by omega
          have hww : IntKind.i64.wrap ((j : Int) - 1) = (j : Int) - 1 := IntWalk.i64_in _ (by omega)
          have htn : ((j : Int) - 1).toNat = q := by omega
          have HCm := Lib.hid (fun w => cmpS_any y z w)
          have hgl := HR.out.lt
          have HRF := Lib.hid (fun w' (hb : Below wr.heap.size wr w') => HR.out.below hb hgl)
          have HGF := Lib.hid (fun w' (hb : Below wr.heap.size wr w') => gb_trans HG.out (gb_of_below hb (some g)))
          have hFf := Lib.hid (fun w' (hb : Below wr.heap.size wr w') i => (HR.out.below hb hgl).frozen i)
          simp only [cA, cB] at c0 c1 d0 d1 HSw HCm
          rw [← hj]
          clear el hq hj hq' hjq hzq hyj hsw hjl hql hAl HLl HLl' HFin HAB HB2 HSo
          cases hl : ltE y z with
          | true =>
            have hc := cmpE_lt hl
            rw [hc] at HCm
            have HNx1 := Lib.hid (fun w' h1 h2 => HNx.out w' hl h1 h2)
            clear hc hl HEx HNx
            go_wp2_with fail
            go_region_held3 (fun w' => w'.cell? ⟨g, j * 2, none⟩ = some (.int .i64 y.1) ∧ w'.cell? ⟨g, j * 2 + 1, none⟩ = some (.slice y.2.1 y.2.2.1 y.2.2.2) ∧ w'.cell? ⟨g, q * 2, none⟩ = some (.int .i64 z.1) ∧ w'.cell? ⟨g, q * 2 + 1, none⟩ = some (.slice z.2.1 z.2.2.1 z.2.2.2))
              (first | exact keepE (by assumption) hb1 | go_keep)
              (first | (go_at_call 110; refine (HCm.out _).mono ?_; rintro e w2 ⟨rfl, hb1⟩))
            have hd1 := drE hb1
            have HR2 := Lib.hid (HRF.out _ hd1)
            have HG2 := Lib.hid (HGF.out _ hd1)
            have HSw2 := Lib.hid (HSw.out _ HR2.out)
            have g0 := (hd1.cell (p := ⟨g, j * 2, none⟩) hgl).trans c0
            have g1 := (hd1.cell (p := ⟨g, j * 2 + 1, none⟩) hgl).trans c1
            have g2 := (hd1.cell (p := ⟨g, q * 2, none⟩) hgl).trans d0
            have g3 := (hd1.cell (p := ⟨g, q * 2 + 1, none⟩) hgl).trans d1
            have f0 := HR2.out.frozen (j * 2)
            have f1 := HR2.out.frozen (j * 2 + 1)
            have f2 := HR2.out.frozen (q * 2)
            have f3 := HR2.out.frozen (q * 2 + 1)
            have HGs := Lib.hid (fun v0 v1 v2 v3 p0 p1 p2 p3 => gb_trans HG2.out (gb_swap (w := w2) (g := g) v0 v1 v2 v3 p0 p1 p2 p3))
            have HN3 := Lib.hid (HNx1.out _ HSw2.out.drew1 (gb_drew1 (HGs.out ..)))
            clear hb1 hd1 c0 c1 d0 d1 HSw HRF HGF HCm HR HG HNx1
            go_wp2_with fail
            go_region
            go_wp2_with fail
            go_roundw
            case rel =>
              have ejq : (j : Int) - 1 = (q : Int) := by omega
              rw [ejq]; exact HN3.out
            case measure => simp [intOf]; omega
          | false =>
            have hc := cmpE_ge hl
            have HEx1 := Lib.hid (fun w' h1 h2 => HEx.out w' hl h1 h2)
            generalize cmpE y z = cc at *
            have hc2 : decide (cc < 0) = false := by simp; omega
            clear hl HEx HNx
            go_wp2_with fail
            go_region_held3 (fun w' => w'.cell? ⟨g, j * 2, none⟩ = some (.int .i64 y.1) ∧ w'.cell? ⟨g, j * 2 + 1, none⟩ = some (.slice y.2.1 y.2.2.1 y.2.2.2) ∧ w'.cell? ⟨g, q * 2, none⟩ = some (.int .i64 z.1) ∧ w'.cell? ⟨g, q * 2 + 1, none⟩ = some (.slice z.2.1 z.2.2.1 z.2.2.2))
              (first | exact keepE (by assumption) hb1 | go_keep)
              (first | (go_at_call 110; refine (HCm.out _).mono ?_; rintro e w2 ⟨rfl, hb1⟩))
            have hd1 := drE hb1
            have HN3 := Lib.hid (HEx1.out _ (HRF.out _ hd1) (HGF.out _ hd1))
            clear hb1 hd1 HRF HGF HCm HR HG HEx1 HSw
            go_wp2_with fail
            go_roundw
            case rel => exact HN3.out
            case measure => simp [intOf]; omega
    · have hib : ¬ (i < b) := by have := HBd.out; omega
      have HD := Lib.hid (show sortL ltE (D.take k) ++ (D.drop k ++ S) = sortL ltE D ++ S by
        have e : D.take k = D := List.take_of_length_le (by omega)
        rw [e, List.drop_of_length_le (by omega)]; rfl)
      rw [HD.out] at HR
      have hai : a ≤ i := by omega
      have hid : i ≤ a + 1 ∨ i ≤ b := by have := HBd.out; omega
      clear hi
      go_wp2_with fail
      go_end0
      exact ⟨rfl, HR.out, HG.out⟩

set_option maxRecDepth 100000 in
set_option maxHeartbeats 2000000 in
theorem pdq_any {g cap : Nat} {l : List El} (n : Nat) (k : Int) (w : World) (h : RowE w g cap l) (hn : n = l.length) (h12 : n ≤ 12) :
    Calls Tryz.prog 182 #[.slice (some ⟨g, 0, none⟩) n cap, .int .i64 0, .int .i64 n, .int .i64 k, cmpV] w fun e w' => e = .returned (.tuple #[]) ∧ RowE w' g cap (sortL ltE l) ∧ w.grownBy w' (some g) := by
  have HI := Lib.hid (insertion_any [] l [] 0 n n w h (by simp) rfl (by simp [hn]) hn (by omega))
  have hnc : n ≤ cap := by rw [hn]; exact h.1
  clear h hn
  unfold cmpV at HI ⊢
  go_enter Tryz.func182, Tryz.ntmps182
  go_wp2_with fail
  refine wp_loop_rounds 1 ?_
  rw [rounds_succ]
  go_wp2_with fail
  refine HI.out.mono ?_
  rintro e w' ⟨rfl, h1, h2⟩
  have H1 := Lib.hid h1
  have H2 := Lib.hid h2
  clear h1 h2
  go_wp2_with fail
  refine bodyPost_ret (results_none rfl _ _ _) rfl ?_
  exact ⟨rfl, by simpa using H1.out, H2.out⟩

set_option maxRecDepth 100000 in
theorem sort_any {g cap : Nat} {l : List El} (n : Nat) (w : World) (h : RowE w g cap l) (hn : n = l.length) (h12 : n ≤ 12) :
    Calls Tryz.prog 112 #[.slice (some ⟨g, 0, none⟩) n cap, cmpV] w fun e w' => e = .returned (.tuple #[]) ∧ RowE w' g cap (sortL ltE l) ∧ w.grownBy w' (some g) := by
  have HP := Lib.hid (fun k => pdq_any n k w h hn h12)
  have hw : IntKind.u64.wrap (n : Int) = n := by rw [IntKind.wrap_u64]; omega
  have hnc : n ≤ cap := by rw [hn]; exact h.1
  clear h hn
  unfold cmpV at HP ⊢
  go_enter Tryz.func112, Tryz.ntmps112
  go_wp2_with fail
  refine (bitsLen_any n _ (by omega) (by omega)).mono ?_
  rintro e w' ⟨⟨k, rfl⟩, rfl⟩
  go_wp2_with fail
  refine (HP.out k).mono ?_
  rintro e w' ⟨rfl, h1, h2⟩
  have H1 := Lib.hid h1
  have H2 := Lib.hid h2
  clear h1 h2
  go_wp2_with fail
  go_end0
  exact ⟨rfl, H1.out, H2.out⟩

end Go.Proofs.YtheenlomlmbjaaaGreatDoor.Sr

namespace Go.Proofs.YtheenlomlmbjaaaGreatDoor
open Go.RowKit

theorem keep4 {b o c p : Nat} {x0 x1 y0 y1 : Value} {w w' : World} (h : w.cell? ⟨b, o, none⟩ = some x0 ∧ w.cell? ⟨b, o + 1, none⟩ = some x1 ∧ w.cell? ⟨c, p, none⟩ = some y0 ∧ w.cell? ⟨c, p + 1, none⟩ = some y1) (hb : Below w.heap.size w w') :
    w'.cell? ⟨b, o, none⟩ = some x0 ∧ w'.cell? ⟨b, o + 1, none⟩ = some x1 ∧ w'.cell? ⟨c, p, none⟩ = some y0 ∧ w'.cell? ⟨c, p + 1, none⟩ = some y1 := by
  obtain ⟨h0, h1, h2, h3⟩ := h
  exact ⟨(hb.cell (World.block_lt_of_cell? w _ h0)).trans h0, (hb.cell (World.block_lt_of_cell? w _ h1)).trans h1, (hb.cell (World.block_lt_of_cell? w _ h2)).trans h2, (hb.cell (World.block_lt_of_cell? w _ h3)).trans h3⟩

def idAt (S : List Ser) (m : Nat) : Int := (S.getD m (0, [])).1
theorem idAt_lt {S : List Ser} (h : RiseC cmpS S) {i j : Nat} (hij : i < j) (hj : j < S.length) : idAt S i < idAt S j := by
  have := cmpS_lt.1 (List.pairwise_iff_getElem.1 h i j (by omega) hj hij)
  simpa [idAt, List.getD_eq_getElem?_getD, List.getElem?_eq_getElem hj, List.getElem?_eq_getElem (show i < S.length by omega)] using this
def BinI (S : List Ser) (x : Int) (i j : Nat) : Prop := i ≤ j ∧ j ≤ S.length ∧ (∀ m, m < i → idAt S m < x) ∧ ∀ m, j ≤ m → m < S.length → x ≤ idAt S m

set_option maxRecDepth 100000 in
set_option maxHeartbeats 4000000 in
attribute [local go_sem ↓] Go.wp_at_zero Go.wp_at_succ in
theorem binS_any (u : Value) (S : List Ser) (x : Int) (xa : Option Addr) (xn xc : Nat) (w : World) (hu : SerV w u S) (hr : RiseC cmpS S) (hl : S.length ≤ 1000) :
    Calls Tryz.prog 113 #[u, .agg #[.int .i64 x, .slice xa xn xc], idF] w fun e w' =>
      ∃ (k : Nat) (f : Bool), e = .returned (.tuple #[.int .i64 k, .bool f]) ∧ (f = true → k < S.length ∧ idAt S k = x) ∧ (f = false → ∀ m, m < S.length → idAt S m ≠ x) ∧ Below w.heap.size w w' := by
  have HU := Lib.hid hu
  obtain ⟨a, cap, rfl, h1, h2⟩ := hu.shape
  obtain ⟨n, hn⟩ : ∃ n, n = S.length := ⟨_, rfl⟩
  have HN := Lib.hid hn
  have HR := Lib.hid hr
  rw [← hn] at h1 hl HU ⊢
  clear hu hr hn
  unfold idF
  have HC := Lib.hid (fun a c p q n m cn cm w => byID_any a c p q n m cn cm w)
  go_enter Tryz.func113, Tryz.ntmps113
  go_wp2_with fail
  have HX := Lib.hid (heap_alloc_new w (.cells #[.int .i64 x, .slice xa xn xc] 49))
  go_loopw [9, 10] (fun p q wr => ∃ i j : Nat, p = .int .i64 i ∧ q = .int .i64 j ∧ BinI S x i j ∧ Below w.heap.size w wr ∧ wr.cell? ⟨w.heap.size, 0, none⟩ = some (.int .i64 x) ∧ wr.cell? ⟨w.heap.size, 1, none⟩ = some (.slice xa xn xc))
    (fun p q wr => (intOf q).toNat - (intOf p).toNat)
  case atStart => exact ⟨0, n, rfl, rfl, ⟨Nat.zero_le _, by rw [HN.out]; exact Nat.le_refl _, fun m h => by omega, fun m h h' => by have := HN.out; omega⟩, (Below.refl _ _).alloc (Nat.le_refl _) _, by rw [Lib.cell_of_heap HX.out]; rfl, by rw [Lib.cell_of_heap HX.out]; rfl⟩
  case round =>
    obtain ⟨i, j, rfl, rfl, hI, hbl, x0, x1⟩ := hrel
    have HI := Lib.hid hI
    have HB := Lib.hid hbl
    obtain ⟨hij, hjn, -, -⟩ := hI
    rw [← HN.out] at hjn
    have hxl : w.heap.size < wr.heap.size := World.block_lt_of_cell? wr _ x0
    by_cases hlt : i < j
    · obtain ⟨h, hh⟩ : ∃ h, h = (i + j) / 2 := ⟨_, rfl⟩
      have hhI : ((i : Int) + (j : Int)) / 2 = (h : Int) := by omega
      have hih : i ≤ h := by omega
      have hhj : h < j := by omega
      have hhn : h < n := by omega
      obtain ⟨b, off, vs, rfl, hgl, c0, c1, hvs⟩ := (HU.out.below hbl).at_ (i := h) (by rw [← HN.out]; exact hhn)
      obtain ⟨va, vc, rfl, -⟩ := hvs.samples
      clear hvs
      have HC1 := Lib.hid (fun w => HC.out (S.getD h (0, [])).1 x va xa (S.getD h (0, [])).2.length xn vc xc w)
      have HYes := Lib.hid (show idAt S h < x → BinI S x (h + 1) j from fun hx => ⟨by omega, HI.out.2.1, fun m hm => by
        rcases Nat.lt_or_ge m h with h' | h'
        · have := idAt_lt HR.out h' (by rw [← HN.out]; omega); omega
        · obtain rfl : m = h := by omega
          exact hx, HI.out.2.2.2⟩)
      have HNo := Lib.hid (show ¬ idAt S h < x → BinI S x i h from fun hx => ⟨hih, by rw [← HN.out]; omega, HI.out.2.2.1, fun m hm hmn => by
        rcases Nat.lt_or_ge h m with h' | h'
        · have := idAt_lt HR.out h' hmn; omega
        · obtain rfl : m = h := by omega
          omega⟩)
      have hidA : (S.getD h (0, [])).1 = idAt S h := rfl
      rw [hidA] at c0 HC1
      generalize idAt S h = y at *
      generalize (S.getD h (0, [])).2.length = ln at *
      have hcmp : (cmpI y x < 0 ∧ y < x) ∨ (0 ≤ cmpI y x ∧ ¬ y < x) := by
        by_cases h' : y < x
        · exact .inl ⟨cmpI_lt.2 h', h'⟩
        · exact .inr ⟨by have := (cmpI_lt (x := y) (y := x)); omega, h'⟩
      have hh0 : (0 : Int) ≤ (h : Int) := by omega
      have hh1 : (h : Int) < (n : Int) := by omega
      clear hbl hidA hh
      rcases hcmp with ⟨h1, h2⟩ | ⟨h1, h2⟩
      · have HR := Lib.hid (HYes.out h2)
        generalize cmpI y x = cc at *
        have hc : decide (cc < 0) = true := by simpa using h1
        clear h1 h2 HYes HNo
        go_wp2_with fail
        go_region_held3 (fun w' => w'.cell? ⟨b, off + h * 2, none⟩ = some (.int .i64 y) ∧ w'.cell? ⟨b, off + h * 2 + 1, none⟩ = some (.slice va ln vc) ∧ w'.cell? ⟨w.heap.size, 0, none⟩ = some (.int .i64 x) ∧ w'.cell? ⟨w.heap.size, 1, none⟩ = some (.slice xa xn xc))
          (first | exact keep4 (by assumption) hb1 | go_keep)
          (first | (go_at_call 110; refine (HC1.out _).mono ?_; rintro e w2 ⟨rfl, hb1⟩))
        have hd1 := drE0 hb1
        have HB2 := Lib.hid (HB.out.trans (hd1.mono HB.out.size))
        have x0' := (hd1.cell (p := ⟨w.heap.size, 0, none⟩) hxl).trans x0
        have x1' := (hd1.cell (p := ⟨w.heap.size, 1, none⟩) hxl).trans x1
        clear hb1 hd1 x0 x1 c0 c1 hgl
        go_wp2_with fail
        go_roundw
        case rel => exact ⟨h + 1, j, by go_num, rfl, HR.out, HB2.out, x0', x1'⟩
        case measure => simp [intOf]; omega
      · have HR := Lib.hid (HNo.out h2)
        generalize cmpI y x = cc at *
        have hc : decide (cc < 0) = false := by simpa using h1
        clear h1 h2 HYes HNo
        go_wp2_with fail
        go_region_held3 (fun w' => w'.cell? ⟨b, off + h * 2, none⟩ = some (.int .i64 y) ∧ w'.cell? ⟨b, off + h * 2 + 1, none⟩ = some (.slice va ln vc) ∧ w'.cell? ⟨w.heap.size, 0, none⟩ = some (.int .i64 x) ∧ w'.cell? ⟨w.heap.size, 1, none⟩ = some (.slice xa xn xc))
          (first | exact keep4 (by assumption) hb1 | go_keep)
          (first | (go_at_call 110; refine (HC1.out _).mono ?_; rintro e w2 ⟨rfl, hb1⟩))
        have hd1 := drE0 hb1
        have HB2 := Lib.hid (HB.out.trans (hd1.mono HB.out.size))
        have x0' := (hd1.cell (p := ⟨w.heap.size, 0, none⟩) hxl).trans x0
        have x1' := (hd1.cell (p := ⟨w.heap.size, 1, none⟩) hxl).trans x1
        clear hb1 hd1 x0 x1 c0 c1 hgl
        go_wp2_with fail
        go_roundw
        case rel => exact ⟨i, h, rfl, rfl, HR.out, HB2.out, x0', x1'⟩
        case measure => simp [intOf]; omega
    · have hje : j = i := by omega
      subst hje
      by_cases hin : j < n
      · obtain ⟨b, off, vs, rfl, hgl, c0, c1, hvs⟩ := (HU.out.below hbl).at_ (i := j) (by rw [← HN.out]; exact hin)
        obtain ⟨va, vc, rfl, -⟩ := hvs.samples
        clear hvs
        have HC1 := Lib.hid (fun w => HC.out (S.getD j (0, [])).1 x va xa (S.getD j (0, [])).2.length xn vc xc w)
        have hidA : (S.getD j (0, [])).1 = idAt S j := rfl
        rw [hidA] at c0 HC1
        have HEq := Lib.hid (show ∀ m, m < S.length → idAt S m = x → m = j from fun m hm he => by
          rcases Nat.lt_trichotomy m j with h' | h' | h'
          · have := HI.out.2.2.1 m h'; omega
          · exact h'
          · have h1 := idAt_lt HR.out h' hm
            have h2 := HI.out.2.2.2 j (Nat.le_refl _) (by rw [← HN.out]; exact hin)
            omega)
        have HJ := Lib.hid (show idAt S j = idAt S j from rfl)
        obtain ⟨y, hy⟩ : ∃ y, y = idAt S j := ⟨_, rfl⟩
        have HY := Lib.hid hy
        rw [← hy] at c0 HC1
        have hcmp := cmpI_eq (x := y) (y := x)
        have HCM := Lib.hid hcmp
        generalize (S.getD j (0, [])).2.length = ln at *
        generalize cmpI y x = cc at *
        have hh0 : (0 : Int) ≤ (j : Int) := by omega
        have hh1 : (j : Int) < (n : Int) := by omega
        have hjn : decide (j < n) = true := by simpa using hin
        clear hbl hidA hcmp hy
        go_wp2_with fail
        go_region_held3 (fun w' => w'.cell? ⟨b, off + j * 2, none⟩ = some (.int .i64 y) ∧ w'.cell? ⟨b, off + j * 2 + 1, none⟩ = some (.slice va ln vc) ∧ w'.cell? ⟨w.heap.size, 0, none⟩ = some (.int .i64 x) ∧ w'.cell? ⟨w.heap.size, 1, none⟩ = some (.slice xa xn xc))
          (first | exact keep4 (by assumption) hb1 | go_keep)
          (first | (go_at_call 110; refine (HC1.out _).mono ?_; rintro e w2 ⟨rfl, hb1⟩))
        have HD1 := Lib.hid (drE0 hb1)
        clear hb1
        go_wp2_with fail
        go_ret2
        refine ⟨j, cc == 0, rfl, fun h => ⟨hin, ?_⟩, fun h m hm he => ?_, HB.out.trans (HD1.out.mono HB.out.size)⟩
        · rw [← HY.out]; exact HCM.out.1 (by simpa using h)
        · have e1 := HEq.out m (by rw [← HN.out]; exact hm) he
          subst e1
          have e2 := HCM.out.2 (HY.out.trans he)
          rw [e2] at h
          cases h
      · have hjn : decide (j < n) = false := by simpa using hin
        go_wp2_with fail
        go_quiet (fail)
        go_wp2_with fail
        go_ret2
        refine ⟨j, false, rfl, (fun h => by cases h), fun _ m hm => ?_, belowN HB.out _⟩
        have := HI.out.2.2.1 m (by have := HN.out; omega)
        omega

end Go.Proofs.YtheenlomlmbjaaaGreatDoor
