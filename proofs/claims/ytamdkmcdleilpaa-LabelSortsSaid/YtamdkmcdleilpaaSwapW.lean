/-
  slices.swapRangeCmpFunc.
-/
import Derived.Test.YtamdkmcdleilpaaSwap
namespace Go.Proofs.Ytamdkmcdleilpaa
open Go.RowKit

def midL (X U M V Y : List El) (k : Nat) : List El := (X ++ V.take k) ++ (U.drop k ++ (M ++ (U.take k ++ (V.drop k ++ Y))))
theorem midL_step {X U M V Y : List El} {k : Nat} (hk : k < U.length) (hU : U.length = V.length) :
    (midL X U M V Y k).getD (X.length + k) el0 = U.getD k el0 ∧ (midL X U M V Y k).getD (X.length + U.length + M.length + k) el0 = V.getD k el0 ∧
    swapE (midL X U M V Y k) (X.length + k) (X.length + U.length + M.length + k) = midL X U M V Y (k + 1) := by
  have hk2 : k < V.length := by omega
  have e1 : U.drop k = U.getD k el0 :: U.drop (k + 1) := by rw [List.drop_eq_getElem_cons hk]; simp [List.getD, List.getElem?_eq_getElem hk]
  have e2 : V.drop k = V.getD k el0 :: V.drop (k + 1) := by rw [List.drop_eq_getElem_cons hk2]; simp [List.getD, List.getElem?_eq_getElem hk2]
  have e3 : U.take (k + 1) = U.take k ++ [U.getD k el0] := by rw [List.take_add_one, List.getElem?_eq_getElem hk]; simp [List.getD, List.getElem?_eq_getElem hk]
  have e4 : V.take (k + 1) = V.take k ++ [V.getD k el0] := by rw [List.take_add_one, List.getElem?_eq_getElem hk2]; simp [List.getD, List.getElem?_eq_getElem hk2]
  generalize U.getD k el0 = u at *
  generalize V.getD k el0 = v at *
  have hA : (X ++ V.take k).length = X.length + k := by simp; omega
  have hB : (U.drop (k + 1) ++ (M ++ U.take k)).length = U.length + M.length - 1 := by simp; omega
  have el : midL X U M V Y k = (X ++ V.take k) ++ u :: ((U.drop (k + 1) ++ (M ++ U.take k)) ++ v :: (V.drop (k + 1) ++ Y)) := by unfold midL; rw [e1, e2]; simp
  have er : midL X U M V Y (k + 1) = (X ++ V.take k) ++ v :: ((U.drop (k + 1) ++ (M ++ U.take k)) ++ u :: (V.drop (k + 1) ++ Y)) := by unfold midL; rw [e3, e4]; simp
  have hq : X.length + U.length + M.length + k = (X ++ V.take k).length + 1 + (U.drop (k + 1) ++ (M ++ U.take k)).length := by rw [hA, hB]; omega
  rw [el, er, hq, ← hA]
  refine ⟨getD_mid _ _ _, ?_, swapE_mid _ _ _ _ _⟩
  have h := getD_mid ((X ++ V.take k) ++ u :: (U.drop (k + 1) ++ (M ++ U.take k))) (V.drop (k + 1) ++ Y) v
  rw [List.append_assoc, List.cons_append] at h
  rw [show (X ++ V.take k).length + 1 + (U.drop (k + 1) ++ (M ++ U.take k)).length = ((X ++ V.take k) ++ u :: (U.drop (k + 1) ++ (M ++ U.take k))).length by simp; omega]
  exact h
theorem midL_len (X U M V Y : List El) (k : Nat) : (midL X U M V Y k).length = X.length + U.length + M.length + V.length + Y.length := by simp [midL]; omega

def MidRel (g cap : Nat) (X U M V Y : List El) (w : World) (i : Value) (wr : World) : Prop :=
  ∃ k : Nat, k ≤ U.length ∧ i = .int .i64 k ∧ RowE wr g cap (midL X U M V Y k) ∧ w.grownBy wr (some g)

set_option maxRecDepth 100000 in
set_option maxHeartbeats 4000000 in
theorem swapRange_any (g cap : Nat) (X U M V Y : List El) (c : Value) (w : World) (h : RowE w g cap (midL X U M V Y 0)) (hU : U.length = V.length) (hn : (midL X U M V Y 0).length ≤ 1000000) :
    Calls Try.prog 101 #[.slice (some ⟨g, 0, none⟩) (midL X U M V Y 0).length cap, .int .i64 X.length, .int .i64 (X.length + U.length + M.length : Nat), .int .i64 U.length, c] w
      fun e w' => e = .returned (.tuple #[]) ∧ RowE w' g cap (midL X U M V Y U.length) ∧ w.grownBy w' (some g) := by
  have HS0 := Lib.hid (show MidRel g cap X U M V Y w (.int .i64 0) w from ⟨0, Nat.zero_le _, rfl, h, gb_refl _ _⟩)
  have hlen := midL_len X U M V Y 0
  have hcap := h.1
  have HU := Lib.hid hU
  have HStep := Lib.hid (fun k (hk : k < U.length) => midL_step (X := X) (M := M) (Y := Y) hk hU)
  obtain ⟨b, hb⟩ : ∃ b, b = X.length + U.length + M.length := ⟨_, rfl⟩
  have hb1 : X.length + U.length ≤ b := by omega
  have hb2 : b + U.length ≤ (midL X U M V Y 0).length := by omega
  rw [← hb] at HStep ⊢
  clear h hb hlen hU
  obtain ⟨n, hnn⟩ : ∃ n, n = (midL X U M V Y 0).length := ⟨_, rfl⟩
  have HN := Lib.hid (fun k => show (midL X U M V Y k).length = n by rw [hnn, midL_len, midL_len])
  rw [← hnn] at hn hb2 hcap ⊢
  clear hnn
  go_enter Try.func101, Try.ntmps101
  go_wp2_with fail
  go_loopw [10] (fun i wr => MidRel g cap X U M V Y w i wr) (fun i _ => U.length - (intOf i).toNat)
  case atStart => exact HS0.out
  case round =>
    clear HS0
    obtain ⟨k, hk, rfl, hrow, hgb⟩ := hrel
    have HR := Lib.hid hrow
    have HG := Lib.hid hgb
    clear hrow hgb
    by_cases hlt : k < U.length
    · obtain ⟨s1, s2, s3⟩ := HStep.out k hlt
      have hpl : X.length + k < (midL X U M V Y k).length := by rw [HN.out]; omega
      have hql : b + k < (midL X U M V Y k).length := by rw [HN.out]; omega
      have HSw := Lib.hid (HR.out.swap hpl hql)
      obtain ⟨c0, c1⟩ := HR.out.at_ hpl
      obtain ⟨d0, d1⟩ := HR.out.at_ hql
      rw [s1] at c0 c1
      rw [s2] at d0 d1
      rw [s1, s2, s3] at HSw
      have f0 := HR.out.frozen ((X.length + k) * 2)
      have f1 := HR.out.frozen ((X.length + k) * 2 + 1)
      have f2 := HR.out.frozen ((b + k) * 2)
      have f3 := HR.out.frozen ((b + k) * 2 + 1)
      clear s1 s2 s3
      generalize U.getD k el0 = x at *
      generalize V.getD k el0 = y at *
      have hk2 : k + 1 ≤ U.length := by omega
      generalize midL X U M V Y k = l at *
      obtain ⟨p, hp⟩ : ∃ p, p = X.length + k := ⟨_, rfl⟩
      obtain ⟨q, hq⟩ : ∃ q, q = b + k := ⟨_, rfl⟩
      have HP := Lib.hid hp
      have HQ := Lib.hid hq
      rw [← hp] at c0 c1 f0 f1 HSw hpl
      rw [← hq] at d0 d1 f2 f3 HSw hql
      have hpq : p < q := by omega
      have hpn : p < n := by omega
      have hqn : q < n := by omega
      have HG2 := Lib.hid (fun v0 v1 v2 v3 p0 p1 p2 p3 => gb_trans HG.out (gb_swap (w := wr) (g := g) v0 v1 v2 v3 p0 p1 p2 p3))
      have hw1 : (X.length : Int) + (k : Int) = (p : Int) := by omega
      have hw2 : (b : Int) + (k : Int) = (q : Int) := by omega
      clear hp hq
      simp only [cA, cB] at c0 c1 d0 d1
      go_wp2_with fail
      go_region
      go_wp2_with fail
      go_roundw
      case rel => exact ⟨k + 1, hk2, by go_num, HSw.out.drew1, gb_drew1 (HG2.out ..)⟩
      case measure => simp [intOf]; omega
    · have hke : k = U.length := by omega
      rw [hke] at HR
      go_wp2_with fail
      go_end0
      exact ⟨rfl, HR.out, HG.out⟩

end Go.Proofs.Ytamdkmcdleilpaa
