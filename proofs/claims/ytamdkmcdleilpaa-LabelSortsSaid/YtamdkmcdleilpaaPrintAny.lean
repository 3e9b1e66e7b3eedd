/-
  label.Print; strandlineref04.Print.
-/
import Derived.Test.YtamdkmcdleilpaaPrint
import Derived.Test.YtamdkmcdleilpaaJoin
import Derived.Test.YtamdkmcdleilpaaChkRef
namespace Go.Proofs.Ytamdkmcdleilpaa
open Go.RowKit

def bodyL (ls : List Lab) : Bytes := joinB [44] (ls.map partOf)
theorem lens_parts (ls : List Lab) : lens (ls.map partOf) ≤ 4 * ls.length + 2 * wt ls := by
  induction ls with
  | nil => simp [lens, wt]
  | cons x r ih =>
    have h := quoteL_len0 x.2
    have e : lens ((x :: r).map partOf) = (partOf x).length + lens (r.map partOf) := by simp [lens]
    have e2 : wt (x :: r) = x.1.length + x.2.length + wt r := by simp [wt]
    have e3 : (partOf x).length = x.1.length + (quoteL x.2).length + 1 := by simp [partOf]; omega
    rw [e, e2, e3]; simp only [List.length_cons]; omega
theorem bodyL_len (ls : List Lab) : (bodyL ls).length ≤ 5 * ls.length + 2 * wt ls := by
  have h := lens_parts ls
  cases ls with
  | nil => simp [bodyL, joinB]
  | cons x r =>
    unfold bodyL
    rw [List.map_cons, joinB_len]
    have e : lens ((x :: r).map partOf) = (partOf x).length + lens (r.map partOf) := by simp [lens]
    rw [e] at h
    simp only [List.length_cons, List.length_map] at *
    omega
theorem print_any (v : Value) (ls : List Lab) (w : World) (hv : Labels w v ls) (hw : ls.length + wt ls ≤ 1000000) :
    Calls Try.prog 32 #[v] w fun e w' => e = .returned (.tuple #[.string (bs (printL (bodyL ls) (chkL ls))), .int .i64 (errL (chkL ls))]) ∧ Below w.heap.size w w' := by
  have hb := bodyL_len ls
  have hp := lens_parts ls
  refine print_with v ls (bodyL ls) w hv hw (Lib.hid fun v w h => ?_) (by omega)
  match ls, h, hp with
  | [], h, _ => exact (join_none v [44] w h).mono fun e w' ⟨he, hw⟩ => ⟨he, hw ▸ Below.refl _ _⟩
  | [x], h, _ => exact (join_one v (partOf x) [44] w h).mono fun e w' ⟨he, hw⟩ => ⟨by rw [he]; simp [bodyL, joinB], hw ▸ Below.refl _ _⟩
  | x :: y :: r, h, hp =>
    refine join_more v (partOf x) (partOf y) (r.map partOf) 44 w h ?_
    have e : lens ((x :: y :: r).map partOf) = (partOf x).length + lens ((y :: r).map partOf) := by simp [lens]
    rw [e] at hp
    simp only [List.length_cons, List.length_map, List.map_cons] at *
    omega

theorem belowN' {B : Nat} {a w : World} (h : Below B a w) (n : Nat) : Below B a (w.drewN n) := ⟨h.os, h.tape, h.output, h.size, h.block⟩
theorem bodyL_succ {ls : List Lab} {k : Nat} (h : k < ls.length) : bodyL (ls.take (k + 1)) = bodyL (ls.take k) ++ ((if k = 0 then [] else [44]) ++ partOf (ls.getD k ([], []))) := by
  unfold bodyL
  rw [part_take h]
  cases k with
  | zero => simp [joinB]
  | succ m =>
    rw [if_neg (by omega)]
    cases hl : ls with
    | nil => rw [hl] at h; simp at h
    | cons x r =>
      rw [List.take_succ_cons, List.map_cons, List.cons_append]
      simp [joinB]
theorem refQuote_c (l : Bytes) (w : World) (hl : l.length ≤ 100000000) : Calls Try.prog 21 #[.string (bs l)] w fun e w' => e = .returned (.string (bs (quoteL l))) ∧ w' = w :=
  (refQuote_any l w hl).mono fun _ _ ⟨he, hw⟩ => ⟨he, hw.symm⟩

set_option maxRecDepth 100000 in
set_option maxHeartbeats 2000000 in
theorem refPrint_any (v : Value) (ls : List Lab) (w : World) (hv : Labels w v ls) (hw : ls.length + wt ls ≤ 1000000) :
    Calls Try.prog 37 #[v] w fun e w' => e = .returned (.tuple #[.string (bs (printL (bodyL ls) (chkL ls))), .int .i64 (errL (chkL ls))]) ∧ Below w.heap.size w w' := by
  have HL0 := Lib.hid hv
  have HLW := Lib.hid hw
  have HCk := Lib.hid (refCheck_any v ls w hv)
  obtain ⟨a, cap, rfl, h1, h2, -⟩ := hv
  cases hb : chkL ls with
  | false =>
    rw [hb] at HCk
    go_enter Try.func37, Try.ntmps37
    go_wp2_with fail
    refine HCk.out.mono ?_
    rintro e w1 ⟨rfl, hd⟩
    have HB := Lib.hid hd
    clear hd
    go_wp2_with fail
    go_ret2
    exact ⟨rfl, HB.out⟩
  | true =>
    rw [hb] at HCk
    clear hb
    go_enter Try.func37, Try.ntmps37
    go_wp2_with fail
    refine HCk.out.mono ?_
    rintro e w1 ⟨rfl, hd⟩
    have HB1 := Lib.hid hd
    clear hd HCk
    go_wp2_with fail
    go_loopw [6, 5] (fun i p wr => ∃ k : Nat, k ≤ ls.length ∧ i = .int .i64 k ∧ p = .string (bs (123 :: bodyL (ls.take k))) ∧ Below w.heap.size w wr)
      (fun i p wr => ls.length - (intOf i).toNat)
    case atStart => exact ⟨0, Nat.zero_le _, rfl, rfl, HB1.out⟩
    case round =>
      obtain ⟨k, hk, rfl, rfl, hbb⟩ := hrel
      have HB := Lib.hid hbb
      clear hbb
      by_cases hlt : k < ls.length
      · obtain ⟨b, off, rfl, hb, hc1, hc2⟩ := (HL0.out.below HB.out).at_ hlt
        have HSu := Lib.hid (bodyL_succ hlt)
        have hbl := bodyL_len (ls.take k)
        have hwt : wt (ls.take k) ≤ wt ls := by
          have e : wt ls = wt (ls.take k) + wt (ls.drop k) := by unfold wt; rw [← List.sum_append, ← List.map_append, List.take_append_drop]
          omega
        have hll := lab_le hlt
        have htk : (ls.take k).length ≤ ls.length := by simp; omega
        have HPO := Lib.hid (show ∀ y : Lab, partOf y = y.1 ++ 61 :: quoteL y.2 from fun _ => rfl)
        rw [HPO.out (ls.getD k ([], []))] at HSu
        generalize (ls.getD k ([], [])).1 = n at *
        generalize (ls.getD k ([], [])).2 = x at *
        generalize bodyL (ls.take k) = bd at *
        have hql := quoteL_len0 x
        have HQ := Lib.hid (fun w => refQuote_c x w (by omega))
        have hj0 : (0 : Int) ≤ (k : Int) := by omega
        have hj1 : (k : Int) < (ls.length : Int) := by omega
        rcases Nat.eq_zero_or_pos k with hk0 | hk0
        · have HK0 := Lib.hid (show bodyL (ls.take (k + 1)) = bd ++ (n ++ 61 :: quoteL x) by rw [HSu.out, if_pos hk0]; rfl)
          have hk1 : (k : Int) ≤ 0 := by omega
          clear hk0
          have hg1 : ¬ ((123 :: bd).length + n.length > 9223372036854775807) := by simp; omega
          have hg1' : ¬ (9223372036854775807 < bd.length + 1 + n.length) := by omega
          have hg2 : ¬ ((123 :: bd ++ n).length + [(61 : UInt8)].length > 9223372036854775807) := by simp; omega
          have hg2' : ¬ (9223372036854775807 < bd.length + 1 + n.length + 1) := by omega
          have hg3 : ¬ ((123 :: bd ++ n ++ [61]).length + (quoteL x).length > 9223372036854775807) := by simp; omega
          have hg4 : ¬ (9223372036854775807 < bd.length + n.length + 1 + 1) := by omega
          have hg5 : ¬ (9223372036854775807 < bd.length + n.length + 1) := by omega
          have hg6 : ¬ (9223372036854775807 < bd.length + (n.length + 1) + 1 + (quoteL x).length) := by omega
          have hg7 : ¬ (9223372036854775807 < bd.length + 1 + n.length) := by omega
          go_wp2_with fail
          go_quiet ((go_at_call 21; exact Calls.quiet_of_same (HQ.out _)))
          go_wp2_with fail
          exact ⟨⟨k + 1, by omega, by go_num, by rw [HK0.out], belowN' HB.out _⟩, by simp [intOf]; omega⟩
        · have HK0 := Lib.hid (show bodyL (ls.take (k + 1)) = bd ++ 44 :: (n ++ 61 :: quoteL x) by rw [HSu.out, if_neg (by omega)]; rfl)
          have hk1 : (0 : Int) < (k : Int) := by omega
          have hg1 : ¬ ((123 :: (bd ++ [44])).length + n.length > 9223372036854775807) := by simp; omega
          have hg1' : ¬ (9223372036854775807 < bd.length + 1 + 1 + n.length) := by omega
          have hg2 : ¬ ((123 :: (bd ++ [44]) ++ n).length + [(61 : UInt8)].length > 9223372036854775807) := by simp; omega
          have hg2' : ¬ (9223372036854775807 < bd.length + 1 + 1 + n.length + 1) := by omega
          have hg3 : ¬ ((123 :: (bd ++ [44]) ++ n ++ [61]).length + (quoteL x).length > 9223372036854775807) := by simp; omega
          have hg4 : ¬ (9223372036854775807 < bd.length + n.length + 1 + 1) := by omega
          have hg5 : ¬ (9223372036854775807 < bd.length + n.length + 1) := by omega
          have hg6 : ¬ (9223372036854775807 < bd.length + (n.length + 1) + 1 + (quoteL x).length) := by omega
          have hg7 : ¬ (9223372036854775807 < bd.length + 1 + n.length) := by omega
          go_wp2_with fail
          go_quiet ((go_at_call 21; exact Calls.quiet_of_same (HQ.out _)))
          go_wp2_with fail
          exact ⟨⟨k + 1, by omega, by go_num, by rw [HK0.out], belowN' HB.out _⟩, by simp [intOf]; omega⟩
      · have hke : k = ls.length := by omega
        have HE := Lib.hid (show ls.take k = ls by rw [hke]; exact List.take_of_length_le (Nat.le_refl _))
        rw [HE.out]
        have hbl := bodyL_len ls
        go_wp2_with fail
        go_ret2
        exact ⟨by simp [printL, errL], HB.out⟩

end Go.Proofs.Ytamdkmcdleilpaa
