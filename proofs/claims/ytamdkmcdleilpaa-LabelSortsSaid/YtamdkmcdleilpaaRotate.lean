/-
  slices.rotateCmpFunc.
-/
import Derived.Test.YtamdkmcdleilpaaSwapW
namespace Go.Proofs.Ytamdkmcdleilpaa
open Go.RowKit

theorem swapRange_c {g cap : Nat} (X U M V Y : List El) {l : List El} (a b k n : Nat) (c : Value) (w : World) (h : RowE w g cap l) (hl : l = X ++ (U ++ (M ++ (V ++ Y)))) (hU : U.length = V.length) (ha : a = X.length) (hb : b = X.length + U.length + M.length) (hk : k = U.length) (hn : n = l.length) (hm : n ≤ 1000000) :
    Calls Try.prog 101 #[.slice (some ⟨g, 0, none⟩) n cap, .int .i64 a, .int .i64 b, .int .i64 k, c] w
      fun e w' => e = .returned (.tuple #[]) ∧ RowE w' g cap (X ++ (V ++ (M ++ (U ++ Y)))) ∧ w.grownBy w' (some g) := by
  have e0 : midL X U M V Y 0 = l := by rw [hl]; simp [midL]
  have e1 : midL X U M V Y U.length = X ++ (V ++ (M ++ (U ++ Y))) := by
    unfold midL
    rw [List.drop_length, List.take_length, List.take_of_length_le (by omega), List.drop_of_length_le (by omega)]; simp
  subst ha hb hk hn
  have := swapRange_any g cap X U M V Y c w (by rw [e0]; exact h) hU (by rw [e0]; exact hm)
  rw [e0, e1] at this
  exact this

def RotRel (g cap m : Nat) (T : List El) (w : World) (i j : Value) (wr : World) : Prop :=
  ∃ X U V Y : List El, i = .int .i64 U.length ∧ j = .int .i64 V.length ∧ 0 < U.length ∧ 0 < V.length ∧ X.length + U.length = m ∧ RowE wr g cap (X ++ (U ++ (V ++ Y))) ∧ X ++ (V ++ (U ++ Y)) = T ∧ w.grownBy wr (some g)

set_option maxRecDepth 100000 in
set_option maxHeartbeats 4000000 in
theorem rotate_any {g cap : Nat} (X U V Y : List El) {l : List El} (a m b n : Nat) (c : Value) (w : World) (h : RowE w g cap l) (hl : l = X ++ (U ++ (V ++ Y))) (hU : 0 < U.length) (hV : 0 < V.length) (ha : a = X.length) (hm : m = X.length + U.length) (hb : b = X.length + U.length + V.length) (hn : n = l.length) (hle : n ≤ 1000000) :
    Calls Try.prog 95 #[.slice (some ⟨g, 0, none⟩) n cap, .int .i64 a, .int .i64 m, .int .i64 b, c] w
      fun e w' => e = .returned (.tuple #[]) ∧ RowE w' g cap (X ++ (V ++ (U ++ Y))) ∧ w.grownBy w' (some g) := by
  have HS0 := Lib.hid (show RotRel g cap m (X ++ (V ++ (U ++ Y))) w (.int .i64 U.length) (.int .i64 V.length) w from ⟨X, U, V, Y, rfl, rfl, hU, hV, by omega, by rw [← hl]; exact h, rfl, gb_refl _ _⟩)
  have HT := Lib.hid (show (X ++ (V ++ (U ++ Y))).length = n by rw [hn, hl]; simp; omega)
  have hw1 : (m : Int) - (a : Int) = (U.length : Int) := by omega
  have hw2 : (b : Int) - (m : Int) = (V.length : Int) := by omega
  have hma : a ≤ m := by omega
  have hmb : m ≤ b := by omega
  have hbn : b ≤ n := by rw [hn, hl]; simp; omega
  have hU2 : U.length ≤ 1000000 := by omega
  have hV2 : V.length ≤ 1000000 := by omega
  generalize X ++ (V ++ (U ++ Y)) = T at *
  clear h hl hU hV ha hm hb hn
  go_enter Try.func95, Try.ntmps95
  go_wp2_with fail
  go_loopw [10, 11] (fun i j wr => RotRel g cap m T w i j wr) (fun i j _ => (intOf i).toNat + (intOf j).toNat)
  case atStart => exact HS0.out
  case round =>
    clear HS0 hw1 hw2
    obtain ⟨X, U, V, Y, rfl, rfl, hU, hV, hm, hrow, hT, hgb⟩ := hrel
    have HR := Lib.hid hrow
    have HG := Lib.hid hgb
    have HE := Lib.hid hT
    have HLn := Lib.hid (show (X ++ (U ++ (V ++ Y))).length = n by rw [← HT.out, ← hT]; simp; omega)
    have hln : X.length + U.length + V.length ≤ n := by rw [← HLn.out]; simp; omega
    have HM := Lib.hid hm
    clear hrow hgb hT
    have hxm : (m : Int) - (U.length : Int) = (X.length : Int) := by omega
    have hx0 : X.length ≤ m := by omega
    clear hm
    rcases Nat.lt_trichotomy U.length V.length with hlt | heq | hgt
    · have HVs := Lib.hid (List.take_append_drop (V.length - U.length) V)
      have hV1 : (V.take (V.length - U.length)).length = V.length - U.length := by simp
      have hV2' : (V.drop (V.length - U.length)).length = U.length := by simp; omega
      generalize hva : V.take (V.length - U.length) = V1 at *
      generalize hvb : V.drop (V.length - U.length) = V2 at *
      clear hva hvb
      obtain ⟨q, hq⟩ : ∃ q, q = m + V.length - U.length := ⟨_, rfl⟩
      have HCs := Lib.hid (swapRange_c X U V1 V2 Y (l := X ++ (U ++ (V ++ Y))) X.length q U.length n c wr HR.out (by rw [← HVs.out]; simp) hV2'.symm rfl (by rw [hV1, hq]; have := HM.out; omega) rfl HLn.out.symm hle)
      have HNew := Lib.hid (fun w' (h1 : RowE w' g cap (X ++ (V2 ++ (V1 ++ (U ++ Y))))) (h2 : wr.grownBy w' (some g)) => show RotRel g cap m T w (.int .i64 U.length) (.int .i64 ((V.length : Int) - (U.length : Int))) w' from
        ⟨X, V2, V1, U ++ Y, by rw [hV2'], by rw [hV1]; congr 1; omega, by omega, by omega, by rw [hV2']; exact HM.out, h1, by rw [← HE.out, ← HVs.out]; simp, gb_trans HG.out h2⟩)
      have hne : ((U.length : Int) != (V.length : Int)) = true := by rw [bne_iff_ne]; omega
      have hqe : (m : Int) + (V.length : Int) - (U.length : Int) = (q : Int) := by omega
      have hqn : q ≤ n := by omega
      clear hq hV1 hV2' HVs HE
      go_wp2_with fail
      refine HCs.out.mono ?_
      rintro e w3 ⟨rfl, hr3, hg3⟩
      have HX := Lib.hid (HNew.out _ hr3 hg3)
      clear hr3 hg3
      go_wp2_with fail
      go_roundw
      case rel => exact HX.out
      case measure => simp [intOf]; omega
    · have HCs := Lib.hid (swapRange_c X U [] V Y (l := X ++ (U ++ (V ++ Y))) X.length m U.length n c wr HR.out (by simp) heq rfl (by have := HM.out; simp; omega) rfl HLn.out.symm hle)
      rw [List.nil_append, HE.out] at HCs
      have hne : ((U.length : Int) != (V.length : Int)) = false := by rw [heq]; simp
      clear heq
      go_wp2_with fail
      refine HCs.out.mono ?_
      rintro e w3 ⟨rfl, hr3, hg3⟩
      have HX := Lib.hid hr3
      have HY := Lib.hid (gb_trans HG.out hg3)
      clear hr3 hg3
      go_wp2_with fail
      go_end0
      exact ⟨rfl, HX.out, HY.out⟩
    · have HUs := Lib.hid (List.take_append_drop V.length U)
      have hU1 : (U.take V.length).length = V.length := by simp; omega
      have hU2' : (U.drop V.length).length = U.length - V.length := by simp
      generalize hva : U.take V.length = U1 at *
      generalize hvb : U.drop V.length = U2 at *
      clear hva hvb
      have HCs := Lib.hid (swapRange_c X U1 U2 V Y (l := X ++ (U ++ (V ++ Y))) X.length m V.length n c wr HR.out (by rw [← HUs.out]; simp) hU1 rfl (by rw [hU1, hU2']; have := HM.out; omega) hU1.symm HLn.out.symm hle)
      have HNew := Lib.hid (fun w' (h1 : RowE w' g cap (X ++ (V ++ (U2 ++ (U1 ++ Y))))) (h2 : wr.grownBy w' (some g)) => show RotRel g cap m T w (.int .i64 ((U.length : Int) - (V.length : Int))) (.int .i64 V.length) w' from
        ⟨X ++ V, U2, U1, Y, by rw [hU2']; congr 1; omega, by rw [hU1], by omega, by omega, by rw [hU2', List.length_append]; have := HM.out; omega, by rw [List.append_assoc]; exact h1, by rw [← HE.out, ← HUs.out]; simp, gb_trans HG.out h2⟩)
      have hne : ((U.length : Int) != (V.length : Int)) = true := by rw [bne_iff_ne]; omega
      clear hU1 hU2' HUs HE
      go_wp2_with fail
      refine HCs.out.mono ?_
      rintro e w3 ⟨rfl, hr3, hg3⟩
      have HX := Lib.hid (HNew.out _ hr3 hg3)
      clear hr3 hg3
      go_wp2_with fail
      go_roundw
      case rel => exact HX.out
      case measure => simp [intOf]; omega

end Go.Proofs.Ytamdkmcdleilpaa
