/-
  slices.stableCmpFunc, slices.SortStableFunc.
-/
import Derived.Test.YtnjcelilljniaaaTBlkP
namespace Go.Proofs.Ytnjcelilljniaaa
open Go.RowKit

/-- The blocks ahead of a are in order. -/
def B1Rel (g cap n : Nat) (l : List El) (w : World) (i j : Value) (wr : World) : Prop :=
  ∃ (a : Nat) (Z T : List El), i = .int .i64 (a : Nat) ∧ j = .int .i64 (a + 20 : Nat) ∧ a = Z.length ∧ a + T.length = n ∧ Z ++ blk 20 T = blk 20 l ∧ RowE wr g cap (Z ++ T) ∧ w.grownBy wr (some g)
def B2Rel (g cap : Nat) (l : List El) (w : World) (i : Value) (wr : World) : Prop :=
  ∃ s : Nat, i = .int .i64 (s : Nat) ∧ 0 < s ∧ s ≤ 2000020 ∧ RowE wr g cap (blk s l) ∧ w.grownBy wr (some g)
def B3Rel (g cap n s s2 : Nat) (l : List El) (w : World) (i j : Value) (wr : World) : Prop :=
  ∃ (a : Nat) (Z T : List El), i = .int .i64 (a : Nat) ∧ j = .int .i64 (a + s2 : Nat) ∧ a = Z.length ∧ a + T.length = n ∧ Z ++ blk s2 T = blk s2 l ∧ RowE wr g cap (Z ++ blk s T) ∧ w.grownBy wr (some g)

set_option maxRecDepth 100000 in
set_option maxHeartbeats 4000000 in
theorem stable_any {g cap : Nat} {l : List El} (n : Nat) (w : World) (h : RowE w g cap l) (hn : n = l.length) (hle : n ≤ 1000000) :
    Calls Try.prog 65 #[.slice (some ⟨g, 0, none⟩) n cap, .int .i64 n, cmpV] w
      fun e w' => e = .returned (.tuple #[]) ∧ RowE w' g cap (sortL ltE l) ∧ w.grownBy w' (some g) := by
  have HS0 := Lib.hid (show B1Rel g cap n l w (.int .i64 0) (.int .i64 20) w from ⟨0, [], l, rfl, rfl, rfl, by omega, rfl, h, gb_refl _ _⟩)
  have hcap := h.1
  have hnc : n ≤ cap := by rw [hn]; exact hcap
  have HN := Lib.hid hn
  unfold cmpV
  clear h hn hcap
  go_enter Try.func65, Try.ntmps65
  go_wp2_with fail
  go_loopw [7, 8] (fun i j wr => B1Rel g cap n l w i j wr) (fun i _ _ => n - (intOf i).toNat)
  case atStart => exact HS0.out
  case round =>
    clear HS0
    obtain ⟨a, Z, T, rfl, rfl, hZ, hT, hB, hrow, hgb⟩ := hrel
    have HR := Lib.hid hrow
    have HG := Lib.hid hgb
    have HB := Lib.hid hB
    have HZ := Lib.hid hZ
    have HT := Lib.hid hT
    obtain ⟨b, hb⟩ : ∃ b, b = a + 20 := ⟨_, rfl⟩
    rw [← hb]
    clear hrow hgb hB hZ hT
    have HTn := Lib.hid (show (Z ++ T).length = n by have h1 := HZ.out; have h2 := HT.out; simp; omega)
    by_cases hbn : b ≤ n
    · as_aux_lemma =>
        have ht : 20 ≤ T.length := by have := HT.out; omega
        have HC := Lib.hid (insertion_any Z (T.take 20) (T.drop 20) a b n wr HR.out (by rw [List.take_append_drop]) HZ.out (by rw [List.length_take]; have := HZ.out; omega) HTn.out.symm hle)
        have HNx := Lib.hid (fun w' (h1 : RowE w' g cap (Z ++ (sortL ltE (T.take 20) ++ T.drop 20))) (h2 : wr.grownBy w' (some g)) => show B1Rel g cap n l w (.int .i64 b) (.int .i64 ((b : Int) + 20)) w' from
          ⟨b, Z ++ sortL ltE (T.take 20), T.drop 20, rfl, by go_num, by rw [List.length_append, sortL_len, List.length_take, ← HZ.out]; omega, by rw [List.length_drop]; have := HT.out; omega, by rw [← HB.out, blk_step ht (by omega)]; simp, by simpa using h1, gb_trans HG.out h2⟩)
        have hab : a < b := by omega
        clear hb ht
        unfold cmpV at HC
        go_wp2_with fail
        refine HC.out.mono ?_
        rintro e w3 ⟨rfl, hr3, hg3⟩
        have HX := Lib.hid (HNx.out _ hr3 hg3)
        clear hr3 hg3 HC HNx
        go_wp2_with fail
        exact ⟨HX.out, by simp [intOf]; omega⟩
    · have HC := Lib.hid (insertion_any Z T [] a n n wr (by rw [List.append_nil]; exact HR.out) rfl HZ.out (by rw [← HZ.out]; exact HT.out.symm) (by rw [List.append_nil]; exact HTn.out.symm) hle)
      have HX := Lib.hid (fun w' (h1 : RowE w' g cap (Z ++ (sortL ltE T ++ []))) (h2 : wr.grownBy w' (some g)) => show B2Rel g cap l w (.int .i64 20) w' from
        ⟨20, rfl, by omega, by omega, by rw [← HB.out, blk_last (show T.length ≤ 20 by have := HT.out; omega)]; simpa using h1, gb_trans HG.out h2⟩)
      have han : a ≤ n := by have := HT.out; omega
      clear hb HB HZ HT HTn HR HG
      unfold cmpV at HC
      go_wp2_with fail
      refine HC.out.mono ?_
      rintro e w3 ⟨rfl, hr3, hg3⟩
      have HS2 := Lib.hid (HX.out _ hr3 hg3)
      clear hr3 hg3 HC HX hbn han
      go_wp2_with fail
      go_loopw [6] (fun i wr => B2Rel g cap l w i wr) (fun i _ => n - (intOf i).toNat)
      case atStart => exact HS2.out
      case round =>
        clear HS2
        obtain ⟨s, rfl, hs0, hs1, hrow, hgb⟩ := hrel
        have HR := Lib.hid hrow
        have HG := Lib.hid hgb
        clear hrow hgb
        by_cases hsn : s < n
        · obtain ⟨s2, hs2⟩ : ∃ s2, s2 = s + s := ⟨_, rfl⟩
          have HS2 := Lib.hid hs2
          have hI1 : (2 : Int) * (s : Int) = (s2 : Int) := by omega
          have hI2 : (s : Int) * 2 = (s2 : Int) := by omega
          have hss : s < s2 := by omega
          have hsb : s2 ≤ 2000020 := by omega
          clear hs2
          have HS3 := Lib.hid (show B3Rel g cap n s s2 l w (.int .i64 0) (.int .i64 s2) wr from ⟨0, [], l, rfl, by rw [Nat.zero_add], rfl, by have := HN.out; omega, rfl, HR.out, HG.out⟩)
          clear HR HG
          go_wp2_with fail
          go_loopw [7, 8] (fun i j wr => B3Rel g cap n s s2 l w i j wr) (fun i _ _ => n - (intOf i).toNat)
          case atStart => exact HS3.out
          case round =>
            clear HS3
            obtain ⟨a, Z, T, rfl, rfl, hZ, hT, hB, hrow, hgb⟩ := hrel
            have HR := Lib.hid hrow
            have HG := Lib.hid hgb
            have HB := Lib.hid hB
            have HZ := Lib.hid hZ
            have HT := Lib.hid hT
            obtain ⟨b, hb⟩ : ∃ b, b = a + s2 := ⟨_, rfl⟩
            rw [← hb]
            obtain ⟨m, hm⟩ : ∃ m, m = a + s := ⟨_, rfl⟩
            have hmI : (a : Int) + (s : Int) = (m : Int) := by omega
            have HM := Lib.hid hm
            clear hrow hgb hB hZ hT
            have HTn := Lib.hid (show (Z ++ blk s T).length = n by have h1 := HZ.out; have h2 := HT.out; rw [List.length_append, blk_length]; omega)
            by_cases hbn : b ≤ n
            · as_aux_lemma =>
                have ht : s2 ≤ T.length := by have := HT.out; omega
                obtain ⟨e1, e2⟩ := blk_two HS2.out ht hs0
                have HE := Lib.hid e2
                have l1 : (sortL ltE (T.take s)).length = s := by rw [sortL_len, List.length_take]; omega
                have l2 : (sortL ltE ((T.drop s).take s)).length = s := by rw [sortL_len, List.length_take, List.length_drop]; have := HS2.out; omega
                have l3 := HM.out
                have l4 := HS2.out
                have HC := Lib.hid (symMerge_any Z (sortL ltE (T.take s)) (sortL ltE ((T.drop s).take s)) (blk s (T.drop s2)) a m b n wr HR.out (by rw [e1]) HZ.out (by omega) (by omega) HTn.out.symm hle (sortL_sorted ltE_weak _) (sortL_sorted ltE_weak _) (by omega) (by omega))
                have HNx := Lib.hid (fun w' (h1 : RowE w' g cap (Z ++ (mergeL ltE (sortL ltE (T.take s)) (sortL ltE ((T.drop s).take s)) ++ blk s (T.drop s2)))) (h2 : wr.grownBy w' (some g)) => show B3Rel g cap n s s2 l w (.int .i64 b) (.int .i64 ((b : Int) + (s2 : Int))) w' from
                  ⟨b, Z ++ mergeL ltE (sortL ltE (T.take s)) (sortL ltE ((T.drop s).take s)), T.drop s2, rfl, by go_num, by rw [List.length_append, mergeL_len, l1, l2, ← HZ.out]; omega, by rw [List.length_drop]; have := HT.out; omega, by rw [← HB.out, HE.out]; simp, by simpa using h1, gb_trans HG.out h2⟩)
                have hab : a < b := by omega
                have hmb : m ≤ b := by omega
                clear hb ht e1 e2 l1 l2 hm l3 l4
                unfold cmpV at HC
                go_wp2_with fail
                refine HC.out.mono ?_
                rintro e w3 ⟨rfl, hr3, hg3⟩
                have HX := Lib.hid (HNx.out _ hr3 hg3)
                clear hr3 hg3 HC HNx
                go_wp2_with fail
                exact ⟨HX.out, by simp [intOf]; omega⟩
            · have hts : T.length < s2 := by have := HT.out; omega
              by_cases hmn : m < n
              · as_aux_lemma =>
                  obtain ⟨e1, e2⟩ := blk_rest HS2.out hts (by have := HT.out; omega) hs0
                  have HE := Lib.hid e2
                  have l1 : (sortL ltE (T.take s)).length = s := by rw [sortL_len, List.length_take]; have := HT.out; omega
                  have l2 : (sortL ltE (T.drop s)).length + s = T.length := by rw [sortL_len, List.length_drop]; have := HT.out; omega
                  have l3 := HM.out
                  have l5 := HT.out
                  have HC := Lib.hid (symMerge_any Z (sortL ltE (T.take s)) (sortL ltE (T.drop s)) [] a m n n wr HR.out (by rw [e1, List.append_nil]) HZ.out (by omega) (by omega) HTn.out.symm hle (sortL_sorted ltE_weak _) (sortL_sorted ltE_weak _) (by omega) (by omega))
                  have HNx := Lib.hid (fun w' (h1 : RowE w' g cap (Z ++ (mergeL ltE (sortL ltE (T.take s)) (sortL ltE (T.drop s)) ++ []))) (h2 : wr.grownBy w' (some g)) => show B2Rel g cap l w (.int .i64 s2) w' from
                    ⟨s2, rfl, by omega, hsb, by rw [← HB.out, HE.out]; simpa using h1, gb_trans HG.out h2⟩)
                  clear hb e1 e2 l1 l2 hm l3 l5 hts
                  unfold cmpV at HC
                  go_wp2_with fail
                  refine HC.out.mono ?_
                  rintro e w3 ⟨rfl, hr3, hg3⟩
                  have HX := Lib.hid (HNx.out _ hr3 hg3)
                  clear hr3 hg3 HC HNx
                  go_wp2_with fail
                  exact ⟨HX.out, by simp [intOf]; omega⟩
              · as_aux_lemma =>
                  have HX := Lib.hid (show B2Rel g cap l w (.int .i64 s2) wr from
                    ⟨s2, rfl, by omega, hsb, by rw [← HB.out, ← blk_short HS2.out (show T.length ≤ s by have := HT.out; omega)]; exact HR.out, HG.out⟩)
                  have han : a ≤ n := by have := HT.out; omega
                  clear hb hm hts
                  go_wp2_with fail
                  exact ⟨HX.out, by simp [intOf]; omega⟩
        · as_aux_lemma =>
            have HX := Lib.hid (show RowE wr g cap (sortL ltE l) from by rw [← blk_last (show l.length ≤ s by have := HN.out; omega)]; exact HR.out)
            go_wp2_with fail
            go_end0
            exact ⟨rfl, HX.out, HG.out⟩

end Go.Proofs.Ytnjcelilljniaaa
