/-
  slices.swapRangeCmpFunc.
-/
import Derived.Test.YtnjcelilljniaaaTSwap
namespace Go.Proofs.Ytnjcelilljniaaa
open Go.RowKit

def midL (X U M V Y : List El) (k : Nat) : List El := (X ++ V.take k) ++ (U.drop k ++ (M ++ (U.take k ++ (V.drop k ++ Y))))
theorem midL_step {X U M V Y : List El} {k : Nat} (hk : k < U.length) (hU : U.length = V.length) :
    (midL X U M V Y k).getD (X.length + k) el0 = U.getD k el0 ∧ (midL X U M V Y k).getD (X.length + U.length + M.length + k) el0 = V.getD k el0 ∧
    swapE (midL X U M V Y k) (X.length + k) (X.length + U.length + M.length + k) = midL X U M V Y (k + 1) := by
  have hk2 : k < V.length := by omega
  have e1 : U.drop k = U.getD k el0 :: U.drop (k + 1) := by rw [List.drop_eq_getElem_cons hk]; simp [List.getD, List.getElem?_eq_getElem hk]
  have e2 : V.drop k = V.getD k el0 :: V.drop (k + 1) := by rw [List.drop_eq_getElem_cons hk2]; simp [List.getD, List.getElem?_eq_getElem hk2]
  have e3 : U.take (k + 1) = U.take k ++ [U.getD k el0] := by rw [List.take_add_one, List.getElem?_eq_getElem hk]; simp [List.getD, List.getElem?_eq_getElem hk]
  have e4 : V.take (k + 1) = V.take k ++ [V.getD k el0] := by rw [List.take_add_one, List.getElem?_eq_getElem hk2]; simp [List.getD, List.getElem?_eq_getElem hk2]
  generalize U.getD k el0 = u at *
  generalize V.getD k el0 = v at *
  have hA : (X ++ V.take k).length = X.length + k := by simp; omega
  have hB : (U.drop (k + 1) ++ (M ++ U.take k)).length = U.length + M.length - 1 := by simp; omega
  have el : midL X U M V Y k = (X ++ V.take k) ++ u :: ((U.drop (k + 1) ++ (M ++ U.take k)) ++ v :: (V.drop (k + 1) ++ Y)) := by unfold midL; rw [e1, e2]; simp
  have er : midL X U M V Y (k + 1) = (X ++ V.take k) ++ v :: ((U.drop (k + 1) ++ (M ++ U.take k)) ++ u :: (V.drop (k + 1) ++ Y)) := by unfold midL; rw [e3, e4]; simp
  have hq : X.length + U.length + M.length + k = (X ++ V.take k).length + 1 + (U.drop (k + 1) ++ (M ++ U.take k)).length := by rw [hA, hB]; omega
  rw [el, er, hq, ← hA]
  refine ⟨getD_mid _ _ _, ?_, swapE_mid _ _ _ _ _⟩
  have h := getD_mid ((X ++ V.take k) ++ u :: (U.drop (k + 1) ++ (M ++ U.take k))) (V.drop (k + 1) ++ Y) v
  rw [List.append_assoc, List.cons_append] at h
  rw [show (X ++ V.take k).length + 1 + (U.drop (k + 1) ++ (M ++ U.take k)).length = ((X ++ V.take k) ++ u :: (U.drop (k + 1) ++ (M ++ U.take k))).length by simp; omega]
  exact h
theorem midL_len (X U M V Y : List El) (k : Nat) : (midL X U M V Y k).length = X.length + U.length + M.length + V.length + Y.length := by simp [midL]; omega

def MidRel (g cap : Nat) (X U M V Y : List El) (w : World) (i : Value) (wr : World) : Prop :=
  ∃ k : Nat, k ≤ U.length ∧ i = .int .i64 k ∧ RowE wr g cap (midL X U M V Y k) ∧ w.grownBy wr (some g)

set_option maxRecDepth 100000 in
set_option maxHeartbeats 4000000 in
theorem swapRange_any (g cap : Nat) (X U M V Y : List El) (c : Value) (w : World) (h : RowE w g cap (midL X U M V Y 0)) (hU : U.length = V.length) (hn : (midL X U M V Y 0).length ≤ 1000000) :
    Calls Try.prog 99 #[.slice (some ⟨g, 0, none⟩) (midL X U M V Y 0).length cap, .int .i64 X.length, .int .i64 (X.length + U.length + M.length : Nat), .int .i64 U.length, c] w
      fun e w' => e = .returned (.tuple #[]) ∧ RowE w' g cap (midL X U M V Y U.length) ∧ w.grownBy w' (some g) := by
  have HS0 := Lib.hid (show MidRel g cap X U M V Y w (.int .i64 0) w from ⟨0, Nat.zero_le _, rfl, h, gb_refl _ _⟩)
  have hlen := midL_len X U M V Y 0
  have hcap := h.1
  have HU := Lib.hid hU
  have HStep := Lib.hid (fun k (hk : k < U.length) => midL_step (X := X) (M := M) (Y := Y) hk hU)
  obtain ⟨b, hb⟩ : ∃ b, b = X.length + U.length + M.length := ⟨_, rfl⟩
  have hb1 : X.length + U.length ≤ b := by omega
  have hb2 : b + U.length ≤ (midL X U M V Y 0).length := by omega
  rw [← hb] at HStep ⊢
  clear h hb hlen hU
  obtain ⟨n, hnn⟩ : ∃ n, n = (midL X U M V Y 0).length := ⟨_, rfl⟩
  have HN := Lib.hid (fun k => show (midL X U M V Y k).length = n by rw [hnn, midL_len, midL_len])
  rw [← hnn] at hn hb2 hcap ⊢
  clear hnn
  go_enter Try.func99, Try.ntmps99
  go_wp2_with fail
  go_loopw [10] (fun i wr => MidRel g cap X U M V Y w i wr) (fun i _ => U.length - (intOf i).toNat)
  case atStart => exact HS0.out
  case round =>
    clear HS0
    obtain ⟨k, hk, rfl, hrow, hgb⟩ := hrel
    have HR := Lib.hid hrow
    have HG := Lib.hid hgb
    clear hrow hgb
    by_cases hlt : k < U.length
    · obtain ⟨s1, s2, s3⟩ := HStep.out k hlt
      have hpl : X.length + k < (midL X U M V Y k).length := by rw [HN.out]; omega
      have hql : b + k < (midL X U M V Y k).length := by rw [HN.out]; omega
      have HSw := Lib.hid (HR.out.swap hpl hql)
      obtain ⟨c0, c1⟩ := HR.out.at_ hpl
      obtain ⟨d0, d1⟩ := HR.out.at_ hql
      rw [s1] at c0 c1
      rw [s2] at d0 d1
      rw [s1, s2, s3] at HSw
      have f0 := HR.out.frozen ((X.length + k) * 2)
      have f1 := HR.out.frozen ((X.length + k) * 2 + 1)
      have f2 := HR.out.frozen ((b + k) * 2)
      have f3 := HR.out.frozen ((b + k) * 2 + 1)
      clear s1 s2 s3
      generalize U.getD k el0 = x at *
      generalize V.getD k el0 = y at *
      have hk2 : k + 1 ≤ U.length := by omega
      generalize midL X U M V Y k = l at *
      obtain ⟨p, hp⟩ : ∃ p, p = X.length + k := ⟨_, rfl⟩
      obtain ⟨q, hq⟩ : ∃ q, q = b + k := ⟨_, rfl⟩
      have HP := Lib.hid hp
      have HQ := Lib.hid hq
      rw [← hp] at c0 c1 f0 f1 HSw hpl
      rw [← hq] at d0 d1 f2 f3 HSw hql
      have hpq : p < q := by omega
      have hpn : p < n := by omega
      have hqn : q < n := by omega
      have HG2 := Lib.hid (fun v0 v1 v2 v3 p0 p1 p2 p3 => gb_trans HG.out (gb_swap (w := wr) (g := g) v0 v1 v2 v3 p0 p1 p2 p3))
      have hw1 : (X.length : Int) + (k : Int) = (p : Int) := by omega
      have hw2 : (b : Int) + (k : Int) = (q : Int) := by omega
      clear hp hq
      simp only [cA, cB] at c0 c1 d0 d1
      go_wp2_with fail
      go_region
      go_wp2_with fail
      go_roundw
      case rel => exact ⟨k + 1, hk2, by go_num, HSw.out.drew1, gb_drew1 (HG2.out ..)⟩
      case measure => simp [intOf]; omega
    · have hke : k = U.length := by omega
      rw [hke] at HR
      go_wp2_with fail
      go_end0
      exact ⟨rfl, HR.out, HG.out⟩

end Go.Proofs.Ytnjcelilljniaaa

/-
  slices.rotateCmpFunc.
-/
namespace Go.Proofs.Ytnjcelilljniaaa
open Go.RowKit

theorem swapRange_c {g cap : Nat} (X U M V Y : List El) {l : List El} (a b k n : Nat) (c : Value) (w : World) (h : RowE w g cap l) (hl : l = X ++ (U ++ (M ++ (V ++ Y)))) (hU : U.length = V.length) (ha : a = X.length) (hb : b = X.length + U.length + M.length) (hk : k = U.length) (hn : n = l.length) (hm : n ≤ 1000000) :
    Calls Try.prog 99 #[.slice (some ⟨g, 0, none⟩) n cap, .int .i64 a, .int .i64 b, .int .i64 k, c] w
      fun e w' => e = .returned (.tuple #[]) ∧ RowE w' g cap (X ++ (V ++ (M ++ (U ++ Y)))) ∧ w.grownBy w' (some g) := by
  have e0 : midL X U M V Y 0 = l := by rw [hl]; simp [midL]
  have e1 : midL X U M V Y U.length = X ++ (V ++ (M ++ (U ++ Y))) := by
    unfold midL
    rw [List.drop_length, List.take_length, List.take_of_length_le (by omega), List.drop_of_length_le (by omega)]; simp
  subst ha hb hk hn
  have := swapRange_any g cap X U M V Y c w (by rw [e0]; exact h) hU (by rw [e0]; exact hm)
  rw [e0, e1] at this
  exact this

def RotRel (g cap m : Nat) (T : List El) (w : World) (i j : Value) (wr : World) : Prop :=
  ∃ X U V Y : List El, i = .int .i64 U.length ∧ j = .int .i64 V.length ∧ 0 < U.length ∧ 0 < V.length ∧ X.length + U.length = m ∧ RowE wr g cap (X ++ (U ++ (V ++ Y))) ∧ X ++ (V ++ (U ++ Y)) = T ∧ w.grownBy wr (some g)

set_option maxRecDepth 100000 in
set_option maxHeartbeats 4000000 in
theorem rotate_any {g cap : Nat} (X U V Y : List El) {l : List El} (a m b n : Nat) (c : Value) (w : World) (h : RowE w g cap l) (hl : l = X ++ (U ++ (V ++ Y))) (hU : 0 < U.length) (hV : 0 < V.length) (ha : a = X.length) (hm : m = X.length + U.length) (hb : b = X.length + U.length + V.length) (hn : n = l.length) (hle : n ≤ 1000000) :
    Calls Try.prog 90 #[.slice (some ⟨g, 0, none⟩) n cap, .int .i64 a, .int .i64 m, .int .i64 b, c] w
      fun e w' => e = .returned (.tuple #[]) ∧ RowE w' g cap (X ++ (V ++ (U ++ Y))) ∧ w.grownBy w' (some g) := by
  have HS0 := Lib.hid (show RotRel g cap m (X ++ (V ++ (U ++ Y))) w (.int .i64 U.length) (.int .i64 V.length) w from ⟨X, U, V, Y, rfl, rfl, hU, hV, by omega, by rw [← hl]; exact h, rfl, gb_refl _ _⟩)
  have HT := Lib.hid (show (X ++ (V ++ (U ++ Y))).length = n by rw [hn, hl]; simp; omega)
  have hw1 : (m : Int) - (a : Int) = (U.length : Int) := by omega
  have hw2 : (b : Int) - (m : Int) = (V.length : Int) := by omega
  have hma : a ≤ m := by omega
  have hmb : m ≤ b := by omega
  have hbn : b ≤ n := by rw [hn, hl]; simp; omega
  have hU2 : U.length ≤ 1000000 := by omega
  have hV2 : V.length ≤ 1000000 := by omega
  generalize X ++ (V ++ (U ++ Y)) = T at *
  clear h hl hU hV ha hm hb hn
  go_enter Try.func90, Try.ntmps90
  go_wp2_with fail
  go_loopw [10, 11] (fun i j wr => RotRel g cap m T w i j wr) (fun i j _ => (intOf i).toNat + (intOf j).toNat)
  case atStart => exact HS0.out
  case round =>
    clear HS0 hw1 hw2
    obtain ⟨X, U, V, Y, rfl, rfl, hU, hV, hm, hrow, hT, hgb⟩ := hrel
    have HR := Lib.hid hrow
    have HG := Lib.hid hgb
    have HE := Lib.hid hT
    have HLn := Lib.hid (show (X ++ (U ++ (V ++ Y))).length = n by rw [← HT.out, ← hT]; simp; omega)
    have hln : X.length + U.length + V.length ≤ n := by rw [← HLn.out]; simp; omega
    have HM := Lib.hid hm
    clear hrow hgb hT
    have hxm : (m : Int) - (U.length : Int) = (X.length : Int) := by omega
    have hx0 : X.length ≤ m := by omega
    clear hm
    rcases Nat.lt_trichotomy U.length V.length with hlt | heq | hgt
    · have HVs := Lib.hid (List.take_append_drop (V.length - U.length) V)
      have hV1 : (V.take (V.length - U.length)).length = V.length - U.length := by simp
      have hV2' : (V.drop (V.length - U.length)).length = U.length := by simp; omega
      generalize hva : V.take (V.length - U.length) = V1 at *
      generalize hvb : V.drop (V.length - U.length) = V2 at *
      clear hva hvb
      obtain ⟨q, hq⟩ : ∃ q, q = m + V.length - U.length := ⟨_, rfl⟩
      have HCs := Lib.hid (swapRange_c X U V1 V2 Y (l := X ++ (U ++ (V ++ Y))) X.length q U.length n c wr HR.out (by rw [← HVs.out]; simp) hV2'.symm rfl (by rw [hV1, hq]; have := HM.out; omega) rfl HLn.out.symm hle)
      have HNew := Lib.hid (fun w' (h1 : RowE w' g cap (X ++ (V2 ++ (V1 ++ (U ++ Y))))) (h2 : wr.grownBy w' (some g)) => show RotRel g cap m T w (.int .i64 U.length) (.int .i64 ((V.length : Int) - (U.length : Int))) w' from
        ⟨X, V2, V1, U ++ Y, by rw [hV2'], by rw [hV1]; congr 1; omega, by omega, by omega, by rw [hV2']; exact HM.out, h1, by rw [← HE.out, ← HVs.out]; simp, gb_trans HG.out h2⟩)
      have hne : ((U.length : Int) != (V.length : Int)) = true := by rw [bne_iff_ne]; omega
      have hqe : (m : Int) + (V.length : Int) - (U.length : Int) = (q : Int) := by omega
      have hqn : q ≤ n := by omega
      clear hq hV1 hV2' HVs HE
      go_wp2_with fail
      refine HCs.out.mono ?_
      rintro e w3 ⟨rfl, hr3, hg3⟩
      have HX := Lib.hid (HNew.out _ hr3 hg3)
      clear hr3 hg3
      go_wp2_with fail
      go_roundw
      case rel => exact HX.out
      case measure => simp [intOf]; omega
    · have HCs := Lib.hid (swapRange_c X U [] V Y (l := X ++ (U ++ (V ++ Y))) X.length m U.length n c wr HR.out (by simp) heq rfl (by have := HM.out; simp; omega) rfl HLn.out.symm hle)
      rw [List.nil_append, HE.out] at HCs
      have hne : ((U.length : Int) != (V.length : Int)) = false := by rw [heq]; simp
      clear heq
      go_wp2_with fail
      refine HCs.out.mono ?_
      rintro e w3 ⟨rfl, hr3, hg3⟩
      have HX := Lib.hid hr3
      have HY := Lib.hid (gb_trans HG.out hg3)
      clear hr3 hg3
      go_wp2_with fail
      go_end0
      exact ⟨rfl, HX.out, HY.out⟩
    · have HUs := Lib.hid (List.take_append_drop V.length U)
      have hU1 : (U.take V.length).length = V.length := by simp; omega
      have hU2' : (U.drop V.length).length = U.length - V.length := by simp
      generalize hva : U.take V.length = U1 at *
      generalize hvb : U.drop V.length = U2 at *
      clear hva hvb
      have HCs := Lib.hid (swapRange_c X U1 U2 V Y (l := X ++ (U ++ (V ++ Y))) X.length m V.length n c wr HR.out (by rw [← HUs.out]; simp) hU1 rfl (by rw [hU1, hU2']; have := HM.out; omega) hU1.symm HLn.out.symm hle)
      have HNew := Lib.hid (fun w' (h1 : RowE w' g cap (X ++ (V ++ (U2 ++ (U1 ++ Y))))) (h2 : wr.grownBy w' (some g)) => show RotRel g cap m T w (.int .i64 ((U.length : Int) - (V.length : Int))) (.int .i64 V.length) w' from
        ⟨X ++ V, U2, U1, Y, by rw [hU2']; congr 1; omega, by rw [hU1], by omega, by omega, by rw [hU2', List.length_append]; have := HM.out; omega, by rw [List.append_assoc]; exact h1, by rw [← HE.out, ← HUs.out]; simp, gb_trans HG.out h2⟩)
      have hne : ((U.length : Int) != (V.length : Int)) = true := by rw [bne_iff_ne]; omega
      clear hU1 hU2' HUs HE
      go_wp2_with fail
      refine HCs.out.mono ?_
      rintro e w3 ⟨rfl, hr3, hg3⟩
      have HX := Lib.hid (HNew.out _ hr3 hg3)
      clear hr3 hg3
      go_wp2_with fail
      go_roundw
      case rel => exact HX.out
      case measure => simp [intOf]; omega

end Go.Proofs.Ytnjcelilljniaaa

/-
  The comparison of samples by their names.
-/
namespace Go.Proofs.Ytnjcelilljniaaa
open Go.RowKit

/-- Which label comes first. -/
def ltE (x y : El) : Bool := decide (x.1 < y.1)
theorem ltE_weak : Weak ltE := ⟨fun x y h => by simp [ltE] at *; omega, fun x y z h1 h2 => by simp [ltE] at *; omega⟩
def cmpE (x y : El) : Int := if ltE x y then -1 else if ltE y x then 1 else 0
theorem cmpE_lt {x y : El} (h : ltE x y = true) : cmpE x y = -1 := by unfold cmpE; rw [if_pos h]
theorem cmpE_ge {x y : El} (h : ltE x y = false) : 0 ≤ cmpE x y := by unfold cmpE; rw [if_neg (by rw [h]; exact Bool.false_ne_true)]; split <;> omega
theorem cmpE_bd (x y : El) : -1 ≤ cmpE x y ∧ cmpE x y ≤ 1 := by unfold cmpE; split; omega; split <;> omega

def cmpV : Value := .func (.func 43) #[] #[]
theorem cmpE_int (x y : El) : cmpE x y = cmpI x.1 y.1 := by simp [cmpE, ltE, cmpI]
theorem cmpS_any (x y : El) (w : World) :
    Calls Try.prog 43 #[.agg #[cA x, cB x], .agg #[cA y, cB y]] w fun e w' => e = .returned (.int .i64 (cmpE x y)) ∧ Below w.heap.size w w' := by
  rw [cmpE_int]
  exact byTime_any x.1 x.2 y.1 y.2 w

end Go.Proofs.Ytnjcelilljniaaa
