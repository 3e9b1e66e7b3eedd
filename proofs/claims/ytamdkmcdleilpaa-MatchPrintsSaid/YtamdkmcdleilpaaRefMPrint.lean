/-
  strandlineref05.Print.
-/
import Derived.Test.YtamdkmcdleilpaaMPrint
import Derived.Test.YtamdkmcdleilpaaMChkRef
import Derived.Test.YtamdkmcdleilpaaPrintAny
namespace Go.Proofs.Ytamdkmcdleilpaa
open Go.RowKit

theorem sign_any {i : Nat} (h : i < 4) (w : World) :
    Calls Try.prog 67 #[.int .i64 i] w fun e w' => e = .returned (.string (bs (signV i))) ∧ w' = w := by
  rcases (show i = 0 ∨ i = 1 ∨ i = 2 ∨ i = 3 by omega) with rfl | rfl | rfl | rfl
  all_goals
    (go_enter Try.func67, Try.ntmps67
     go_wp2_with fail
     go_ret
     exact ⟨rfl, rfl⟩)
theorem qjoin_succ {ss : List Bytes} {j : Nat} (h : j < ss.length) : joinB [124] ((ss.take (j + 1)).map quoteL) = joinB [124] ((ss.take j).map quoteL) ++ ((if j = 0 then [] else [124]) ++ quoteL (ss.getD j [])) := by
  rw [quote_take h]
  cases j with
  | zero => simp [joinB]
  | succ m =>
    rw [if_neg (by omega)]
    cases hl : ss with
    | nil => rw [hl] at h; simp at h
    | cons x r => rw [List.take_succ_cons, List.map_cons, List.cons_append]; simp [joinB]
theorem sl_take_le (ss : List Bytes) (j : Nat) : sl (ss.take j) ≤ sl ss := by
  have : sl ss = sl (ss.take j) + sl (ss.drop j) := by unfold sl; rw [← List.sum_append, ← List.map_append, List.take_append_drop]
  omega
theorem qjoin_le (ss : List Bytes) (j : Nat) : (joinB [124] ((ss.take j).map quoteL)).length ≤ 2 * sl ss + 3 * ss.length := by
  have h1 := quotesL_le (ss.take j)
  have h2 := sl_take_le ss j
  have h3 : (ss.take j).length ≤ ss.length := by simp; omega
  unfold quotesL at h1; omega
theorem quotes1 (x : Bytes) : quotesL [x] = quoteL x := by simp [quotesL, joinB]
theorem wm_take_le (ms : List Mat) (k : Nat) : wm (ms.take k) ≤ wm ms := by
  have : wm ms = wm (ms.take k) + wm (ms.drop k) := by unfold wm; rw [← List.sum_append, ← List.map_append, List.take_append_drop]
  omega
/-- What stands behind k matchers. -/
def bodyT (ms : List Mat) (k : Nat) : Bytes := 91 :: bodyM (ms.take k)
theorem bodyT_succ {ms : List Mat} {k : Nat} (h : k < ms.length) : bodyT ms (k + 1) = 91 :: (bodyM (ms.take k) ++ ((if k = 0 then [] else [44]) ++ partM (ms.getD k noMat))) := by
  unfold bodyT bodyM
  rw [partM_take h]
  cases k with
  | zero => simp [joinB]
  | succ m =>
    rw [if_neg (by omega)]
    cases hl : ms with
    | nil => rw [hl] at h; simp at h
    | cons x r => rw [List.take_succ_cons, List.map_cons, List.cons_append]; simp [joinB]
/-- The first i matchers may be. -/
def CRelM (ms : List Mat) (w : World) (i : Value) (wr : World) : Prop :=
  ∃ k : Nat, k ≤ ms.length ∧ i = .int .i64 k ∧ Below w.heap.size w wr ∧ ∀ i, i < k → okMat (ms.getD i noMat) = true
def SRelM (ms : List Mat) (w : World) (i p : Value) (wr : World) : Prop :=
  ∃ k : Nat, k ≤ ms.length ∧ i = .int .i64 k ∧ p = .string (bs (bodyT ms k)) ∧ Below w.heap.size w wr
def WRel (B : Nat) (W0 : World) (ss : List Bytes) (S1 : Bytes) (j p : Value) (wq : World) : Prop :=
  ∃ i : Nat, i ≤ ss.length ∧ j = .int .i64 i ∧ p = .string (bs (S1 ++ joinB [124] ((ss.take i).map quoteL))) ∧ Below B W0 wq

set_option maxRecDepth 100000 in
set_option maxHeartbeats 4000000 in
theorem refMPrint_any (v : Value) (ms : List Mat) (w : World) (hv : Matchers w v ms) (hw : ms.length + wm ms ≤ 1000000) :
    Calls Try.prog 45 #[v] w fun e w' => e = .returned (.tuple #[.string (bs (printP (bodyM ms) (chkM ms))), .int .i64 (errM (chkM ms))]) ∧ Below w.heap.size w w' := by
  have HV := Lib.hid hv
  obtain ⟨a, cap, rfl, h1, h2, -⟩ := hv
  generalize hR : chkM ms = R
  have HR := Lib.hid hR
  clear hR
  have HC0 := Lib.hid (show CRelM ms w (.int .i64 0) w from ⟨0, Nat.zero_le _, rfl, Below.refl _ _, fun i h => absurd h (Nat.not_lt_zero _)⟩)
  go_enter Try.func45, Try.ntmps45
  go_wp2_with fail
  go_loopw [4] (fun i wr => CRelM ms w i wr) (fun i _ => ms.length - (intOf i).toNat)
  case atStart => exact HC0.out
  case round =>
    clear HC0
    obtain ⟨k, hk, rfl, hbl, hok⟩ := hrel
    have HB := Lib.hid hbl
    have HK := Lib.hid hok
    have hszw := hbl.size
    clear hbl hok
    by_cases hlt : k < ms.length
    · obtain ⟨b, off, u, rfl, hb, hc0, hc1, hc2, hc3, hss⟩ := (HV.out.below HB.out).at_ hlt
      have HMem := Lib.hid (mem_mat hlt)
      have HOk := Lib.hid (fun (h : okMat (ms.getD k noMat) = true) => show ∀ i, i < k + 1 → okMat (ms.getD i noMat) = true from fun i hi => by
        rcases Nat.lt_or_ge i k with h' | h'
        · exact HK.out i h'
        · rw [show i = k by omega]; exact h)
      have HNo := Lib.hid (fun (h : okMat (ms.getD k noMat) = false) => show R = false by rw [← HR.out]; exact chk_no HMem.out h)
      have HCk := Lib.hid (mref_any (ms.getD k noMat).k (ms.getD k noMat).n (ms.getD k noMat).x u (ms.getD k noMat).ss wr hss)
      rw [okMat_def] at HCk
      clear HMem HK hss
      generalize ms.getD k noMat = m at *
      obtain ⟨kd, n, x, ss⟩ := m
      simp only at hc0 hc1 hc2 HCk
      have hj0 : (0 : Int) ≤ (k : Int) := by omega
      have hj1 : (k : Int) < (ms.length : Int) := by omega
      cases hm : okMat ⟨kd, n, x, ss⟩ with
      | false =>
        have HE := Lib.hid (HNo.out hm)
        rw [hm, errM_false] at HCk
        clear hm HNo HOk
        go_wp2_with fail
        refine HCk.out.mono ?_
        rintro e w3 ⟨rfl, hb3⟩
        have HB3 := Lib.hid (HB.out.trans (hb3.mono hszw))
        clear hb3
        go_wp2_with fail
        go_ret2
        exact ⟨by rw [HE.out]; rfl, HB3.out⟩
      | true =>
        rw [hm, errM_true] at HCk
        have HO1 := Lib.hid (HOk.out hm)
        clear hm HNo HOk
        go_wp2_with fail
        refine HCk.out.mono ?_
        rintro e w3 ⟨rfl, hb3⟩
        have HB3 := Lib.hid (HB.out.trans (hb3.mono hszw))
        clear hb3
        have HR2 := Lib.hid (show CRelM ms w (.int .i64 ((k : Int) + 1)) w3 from ⟨k + 1, by omega, rfl, HB3.out, HO1.out⟩)
        go_wp2_with fail
        go_roundw
        case rel => exact HR2.out
        case measure => simp [intOf]; omega
    · by_cases h8 : 8 < ms.length
      · have HE := Lib.hid (show R = false by rw [← HR.out]; exact chk_long h8)
        have h8' : (8 : Int) < (ms.length : Int) := by omega
        go_wp2_with fail
        go_ret2
        exact ⟨by rw [HE.out]; rfl, HB.out⟩
      · have h8' : ¬ ((8 : Int) < (ms.length : Int)) := by omega
        have HKa := Lib.hid (show ∀ i, i < ms.length → okMat (ms.getD i noMat) = true from fun i hi => HK.out i (by omega))
        have HE := Lib.hid (show R = true by rw [← HR.out]; exact chk_all (by omega) HKa.out)
        have HS0 := Lib.hid (show SRelM ms w (.int .i64 0) (.string (bs [91])) wr from ⟨0, Nat.zero_le _, rfl, rfl, HB.out⟩)
        clear HK HB hszw
        go_wp2_with fail
        go_loopw [6, 5] (fun i p wr => SRelM ms w i p wr) (fun i _ _ => ms.length - (intOf i).toNat)
        case atStart => exact HS0.out
        case round =>
          clear HS0 hlt hk
          obtain ⟨k, hk, rfl, rfl, hbl⟩ := hrel
          have HB := Lib.hid hbl
          have hszw := hbl.size
          clear hbl
          by_cases hlt : k < ms.length
          · obtain ⟨b, off, u, rfl, hb, hc0, hc1, hc2, hc3, hss⟩ := (HV.out.below HB.out).at_ hlt
            have hm := HKa.out k hlt
            have HP := Lib.hid (bodyT_succ hlt)
            have HMem := Lib.hid (mem_mat hlt)
            have hwm := wm_mem HMem.out
            have hbt := bodyM_len (ms.take k)
            have hwt := wm_take_le ms k
            have htk : (ms.take k).length ≤ ms.length := by simp; omega
            have HU := Lib.hid hss
            have HBT := Lib.hid (show bodyT ms k = 91 :: bodyM (ms.take k) from rfl)
            clear hss HMem
            rw [HBT.out]
            generalize bodyM (ms.take k) = bd at *
            generalize ms.getD k noMat = m at *
            obtain ⟨kd, n, x, ss⟩ := m
            simp only at hc0 hc1 hc2 HU hwm
            obtain ⟨ua, uc, hu, huc, huc2, -⟩ := HU.out
            subst hu
            obtain ⟨kn, hkn, hkn4⟩ : ∃ kn : Nat, kd = (kn : Int) ∧ kn < 4 := by
              rcases ok_kind hm with e | e | e | e <;> simp only at e
              · exact ⟨0, e, by omega⟩
              · exact ⟨1, e, by omega⟩
              · exact ⟨2, e, by omega⟩
              · exact ⟨3, e, by omega⟩
            subst hkn
            have HSet := Lib.hid (show kn < 3 → ss = [] from fun h => by
              have h' : okM (kn : Int) n x ss = true := hm
              rw [okM_lo (by omega)] at h'
              simp only [Bool.and_eq_true, decide_eq_true_eq] at h'
              exact List.length_eq_zero_iff.1 h'.2.2)
            have HPm := Lib.hid (show partM ⟨kn, n, x, ss⟩ = n ++ signV kn ++ quotesL (valsOf ⟨kn, n, x, ss⟩) by rw [signV_pre hkn4]; simp [partM])
            have HVo := Lib.hid (show (kn < 3 → valsOf ⟨(kn : Int), n, x, ss⟩ = [x]) ∧ (¬ kn < 3 → valsOf ⟨(kn : Int), n, x, ss⟩ = ss) from ⟨fun h => if_pos (show (kn : Int) < 3 by omega), fun h => if_neg (show ¬ (kn : Int) < 3 by omega)⟩)
            rw [HPm.out, List.append_assoc] at HP
            have hslV : (signV kn).length ≤ 2 := by unfold signV; split; simp; split; simp; split <;> simp
            have HSg := Lib.hid (fun w => sign_any hkn4 w)
            clear hm HPm
            generalize valsOf ⟨(kn : Int), n, x, ss⟩ = vs at *
            generalize signV kn = sg at *
            obtain ⟨W0, hW0⟩ : ∃ W0, W0 = wr.alloc (.cells #[.int .i64 kn, .string (bs n), .string (bs x), .slice ua ss.length uc] 27) := ⟨_, rfl⟩
            have hmb : MB W0 wr.heap.size kn n x (.slice ua ss.length uc) := by rw [hW0]; exact heap_alloc_new ..
            have HM0 := Lib.hid hmb
            have HU0 := Lib.hid (show Strs W0 (.slice ua ss.length uc) ss by rw [hW0]; exact HU.out.below ((Below.refl _ _).alloc (Nat.le_refl _) _))
            have HB0 := Lib.hid (show Below w.heap.size w W0 by rw [hW0]; exact HB.out.alloc hszw _)
            have hbB := hmb.lt
            obtain ⟨c0, c1, c2, c3⟩ := hmb.cells
            clear hmb HU HB
            have HBd := Lib.hid (fun n => belowN' (Below.refl W0.heap.size W0) n)
            have HW0 := Lib.hid hW0
            clear hW0 c0 c1 c2 c3
            obtain ⟨B, hB⟩ : ∃ B, B = W0.heap.size := ⟨_, rfl⟩
            have HUf := Lib.hid (fun wq (hb : Below W0.heap.size W0 wq) => HU0.out.below hb)
            have hBw := HB0.out.size
            rw [← hB] at hbB HBd HUf hBw
            clear hB
            rcases Nat.eq_zero_or_pos k with hk0 | hk0
            · rw [if_pos hk0, List.nil_append] at HP
              have hk1 : (k : Int) ≤ 0 := by omega
              have hg1 : ¬ (9223372036854775807 < bd.length + 1 + n.length) := by omega
              have hg2 : ¬ (9223372036854775807 < bd.length + n.length + 1 + sg.length) := by omega
              clear hk0
              by_cases hk3 : kn < 3
              · have hk3' : (kn : Int) < 3 := by omega
                have HQx := Lib.hid (fun w => refQuote_any x w (by omega))
                rw [HVo.out.1 hk3] at HP
                have hql := (quoteL_len0 x).2
                have HS := Lib.hid (HSet.out hk3)
                clear hk3
                go_wp2_with fail
                go_quiet ((go_at_call 67; exact Calls.quiet_of_same (HSg.out _)))
                go_wp2_with fail
                refine (HQx.out _).mono ?_
                rintro e w5 ⟨rfl, rfl⟩
                have HBs := Lib.hid (HBd.out)
                obtain ⟨S1, hS1⟩ : ∃ S1, S1 = 91 :: (bd ++ (n ++ (sg ++ quoteL x))) := ⟨_, rfl⟩
                have HF := Lib.hid (show bodyT ms (k + 1) = S1 ++ joinB [124] (ss.map quoteL) by rw [HP.out, HS.out, hS1, quotes1]; simp [joinB])
                have hS1l : S1.length ≤ 10000000 := by rw [hS1]; simp; omega
                go_wp2_with fail
                rw [← hS1, ← HW0.out]
                clear hS1
                go_loopw [8, 5] (fun j p wq => WRel B W0 ss S1 j p wq) (fun j _ _ => ss.length - (intOf j).toNat)
                case atStart => exact ⟨0, Nat.zero_le _, rfl, by simp [joinB], HBs.out _⟩
                case round =>
                  clear HBs
                  obtain ⟨j, hj, rfl, rfl, hbq⟩ := hrel
                  have HB4 := Lib.hid hbq
                  have HM4 := Lib.hid (HM0.out.below hbq hbB)
                  obtain ⟨c0, c1, c2, c3⟩ := HM4.out.cells
                  clear hbq
                  by_cases hjl : j < ss.length
                  · obtain ⟨b2, off2, rfl, hb2, hcs⟩ := (HUf.out _ HB4.out).at_ hjl
                    have HT := Lib.hid (qjoin_succ hjl)
                    have hsl := sl_getD hjl
                    have hjt := qjoin_le ss j
                    generalize ss.getD j [] = y at *
                    generalize joinB [124] ((ss.take j).map quoteL) = qq at *
                    have hql := (quoteL_len0 y).2
                    have HQt := Lib.hid (fun w => refQuote_any y w (by omega))
                    rcases Nat.eq_zero_or_pos j with hj0 | hj0
                    · have HT2 := Lib.hid (HT.out.trans (by rw [if_pos hj0]; rfl : _ = qq ++ quoteL y))
                      have hj1 : (j : Int) ≤ 0 := by omega
                      clear hj0 HT
                      go_wp2_with fail
                      refine (HQt.out _).mono ?_
                      rintro e w5 ⟨rfl, rfl⟩
                      go_wp2_with fail
                      go_roundw
                      case rel => exact ⟨j + 1, by omega, by go_num, by rw [HT2.out], HB4.out⟩
                      case measure => simp [intOf]; omega
                    · have HT2 := Lib.hid (HT.out.trans (by rw [if_neg (by omega)]; rfl : _ = qq ++ (124 :: quoteL y)))
                      have hj1 : (0 : Int) < (j : Int) := by omega
                      clear hj0 HT
                      go_wp2_with fail
                      refine (HQt.out _).mono ?_
                      rintro e w5 ⟨rfl, rfl⟩
                      go_wp2_with fail
                      go_roundw
                      case rel => exact ⟨j + 1, by omega, by go_num, by rw [HT2.out], HB4.out⟩
                      case measure => simp [intOf]; omega
                  · have hje : j = ss.length := by omega
                    have HT := Lib.hid (show joinB [124] ((ss.take j).map quoteL) = joinB [124] (ss.map quoteL) by rw [hje, List.take_of_length_le (Nat.le_refl _)])
                    rw [HT.out]
                    have HR2 := Lib.hid (show SRelM ms w (.int .i64 ((k : Int) + 1)) (.string (bs (S1 ++ joinB [124] (ss.map quoteL)))) wr from ⟨k + 1, by omega, rfl, by rw [HF.out], HB0.out.trans (HB4.out.mono hBw)⟩)
                    clear hje HT
                    go_wp2_with fail
                    go_roundw
                    case rel => exact HR2.out
                    case measure => simp [intOf]; omega
              · have hk3' : ¬ ((kn : Int) < 3) := by omega
                rw [HVo.out.2 hk3] at HP
                clear hk3
                go_wp2_with fail
                go_quiet ((go_at_call 67; exact Calls.quiet_of_same (HSg.out _)))
                have HBs := Lib.hid (HBd.out)
                obtain ⟨S1, hS1⟩ : ∃ S1, S1 = 91 :: (bd ++ (n ++ sg)) := ⟨_, rfl⟩
                have HF := Lib.hid (show bodyT ms (k + 1) = S1 ++ joinB [124] (ss.map quoteL) by rw [HP.out, hS1]; simp [quotesL])
                have hS1l : S1.length ≤ 10000000 := by rw [hS1]; simp; omega
                go_wp2_with fail
                rw [← hS1, ← HW0.out]
                clear hS1
                go_loopw [8, 5] (fun j p wq => WRel B W0 ss S1 j p wq) (fun j _ _ => ss.length - (intOf j).toNat)
                case atStart => exact ⟨0, Nat.zero_le _, rfl, by simp [joinB], HBs.out _⟩
                case round =>
                  clear HBs
                  obtain ⟨j, hj, rfl, rfl, hbq⟩ := hrel
                  have HB4 := Lib.hid hbq
                  have HM4 := Lib.hid (HM0.out.below hbq hbB)
                  obtain ⟨c0, c1, c2, c3⟩ := HM4.out.cells
                  clear hbq
                  by_cases hjl : j < ss.length
                  · obtain ⟨b2, off2, rfl, hb2, hcs⟩ := (HUf.out _ HB4.out).at_ hjl
                    have HT := Lib.hid (qjoin_succ hjl)
                    have hsl := sl_getD hjl
                    have hjt := qjoin_le ss j
                    generalize ss.getD j [] = y at *
                    generalize joinB [124] ((ss.take j).map quoteL) = qq at *
                    have hql := (quoteL_len0 y).2
                    have HQt := Lib.hid (fun w => refQuote_any y w (by omega))
                    rcases Nat.eq_zero_or_pos j with hj0 | hj0
                    · have HT2 := Lib.hid (HT.out.trans (by rw [if_pos hj0]; rfl : _ = qq ++ quoteL y))
                      have hj1 : (j : Int) ≤ 0 := by omega
                      clear hj0 HT
                      go_wp2_with fail
                      refine (HQt.out _).mono ?_
                      rintro e w5 ⟨rfl, rfl⟩
                      go_wp2_with fail
                      go_roundw
                      case rel => exact ⟨j + 1, by omega, by go_num, by rw [HT2.out], HB4.out⟩
                      case measure => simp [intOf]; omega
                    · have HT2 := Lib.hid (HT.out.trans (by rw [if_neg (by omega)]; rfl : _ = qq ++ (124 :: quoteL y)))
                      have hj1 : (0 : Int) < (j : Int) := by omega
                      clear hj0 HT
                      go_wp2_with fail
                      refine (HQt.out _).mono ?_
                      rintro e w5 ⟨rfl, rfl⟩
                      go_wp2_with fail
                      go_roundw
                      case rel => exact ⟨j + 1, by omega, by go_num, by rw [HT2.out], HB4.out⟩
                      case measure => simp [intOf]; omega
                  · have hje : j = ss.length := by omega
                    have HT := Lib.hid (show joinB [124] ((ss.take j).map quoteL) = joinB [124] (ss.map quoteL) by rw [hje, List.take_of_length_le (Nat.le_refl _)])
                    rw [HT.out]
                    have HR2 := Lib.hid (show SRelM ms w (.int .i64 ((k : Int) + 1)) (.string (bs (S1 ++ joinB [124] (ss.map quoteL)))) wr from ⟨k + 1, by omega, rfl, by rw [HF.out], HB0.out.trans (HB4.out.mono hBw)⟩)
                    clear hje HT
                    go_wp2_with fail
                    go_roundw
                    case rel => exact HR2.out
                    case measure => simp [intOf]; omega
            · rw [if_neg (by omega)] at HP
              have hk1 : (0 : Int) < (k : Int) := by omega
              have hg1 : ¬ (9223372036854775807 < bd.length + 1 + 1 + n.length) := by omega
              have hg2 : ¬ (9223372036854775807 < bd.length + (n.length + 1) + 1 + sg.length) := by omega
              clear hk0
              by_cases hk3 : kn < 3
              · have hk3' : (kn : Int) < 3 := by omega
                have HQx := Lib.hid (fun w => refQuote_any x w (by omega))
                rw [HVo.out.1 hk3] at HP
                have hql := (quoteL_len0 x).2
                have HS := Lib.hid (HSet.out hk3)
                clear hk3
                go_wp2_with fail
                go_quiet ((go_at_call 67; exact Calls.quiet_of_same (HSg.out _)))
                go_wp2_with fail
                refine (HQx.out _).mono ?_
                rintro e w5 ⟨rfl, rfl⟩
                have HBs := Lib.hid (HBd.out)
                obtain ⟨S1, hS1⟩ : ∃ S1, S1 = 91 :: (bd ++ 44 :: (n ++ (sg ++ quoteL x))) := ⟨_, rfl⟩
                have HF := Lib.hid (show bodyT ms (k + 1) = S1 ++ joinB [124] (ss.map quoteL) by rw [HP.out, HS.out, hS1, quotes1]; simp [joinB])
                have hS1l : S1.length ≤ 10000000 := by rw [hS1]; simp; omega
                go_wp2_with fail
                rw [← hS1, ← HW0.out]
                clear hS1
                go_loopw [8, 5] (fun j p wq => WRel B W0 ss S1 j p wq) (fun j _ _ => ss.length - (intOf j).toNat)
                case atStart => exact ⟨0, Nat.zero_le _, rfl, by simp [joinB], HBs.out _⟩
                case round =>
                  clear HBs
                  obtain ⟨j, hj, rfl, rfl, hbq⟩ := hrel
                  have HB4 := Lib.hid hbq
                  have HM4 := Lib.hid (HM0.out.below hbq hbB)
                  obtain ⟨c0, c1, c2, c3⟩ := HM4.out.cells
                  clear hbq
                  by_cases hjl : j < ss.length
                  · obtain ⟨b2, off2, rfl, hb2, hcs⟩ := (HUf.out _ HB4.out).at_ hjl
                    have HT := Lib.hid (qjoin_succ hjl)
                    have hsl := sl_getD hjl
                    have hjt := qjoin_le ss j
                    generalize ss.getD j [] = y at *
                    generalize joinB [124] ((ss.take j).map quoteL) = qq at *
                    have hql := (quoteL_len0 y).2
                    have HQt := Lib.hid (fun w => refQuote_any y w (by omega))
                    rcases Nat.eq_zero_or_pos j with hj0 | hj0
                    · have HT2 := Lib.hid (HT.out.trans (by rw [if_pos hj0]; rfl : _ = qq ++ quoteL y))
                      have hj1 : (j : Int) ≤ 0 := by omega
                      clear hj0 HT
                      go_wp2_with fail
                      refine (HQt.out _).mono ?_
                      rintro e w5 ⟨rfl, rfl⟩
                      go_wp2_with fail
                      go_roundw
                      case rel => exact ⟨j + 1, by omega, by go_num, by rw [HT2.out], HB4.out⟩
                      case measure => simp [intOf]; omega
                    · have HT2 := Lib.hid (HT.out.trans (by rw [if_neg (by omega)]; rfl : _ = qq ++ (124 :: quoteL y)))
                      have hj1 : (0 : Int) < (j : Int) := by omega
                      clear hj0 HT
                      go_wp2_with fail
                      refine (HQt.out _).mono ?_
                      rintro e w5 ⟨rfl, rfl⟩
                      go_wp2_with fail
                      go_roundw
                      case rel => exact ⟨j + 1, by omega, by go_num, by rw [HT2.out], HB4.out⟩
                      case measure => simp [intOf]; omega
                  · have hje : j = ss.length := by omega
                    have HT := Lib.hid (show joinB [124] ((ss.take j).map quoteL) = joinB [124] (ss.map quoteL) by rw [hje, List.take_of_length_le (Nat.le_refl _)])
                    rw [HT.out]
                    have HR2 := Lib.hid (show SRelM ms w (.int .i64 ((k : Int) + 1)) (.string (bs (S1 ++ joinB [124] (ss.map quoteL)))) wr from ⟨k + 1, by omega, rfl, by rw [HF.out], HB0.out.trans (HB4.out.mono hBw)⟩)
                    clear hje HT
                    go_wp2_with fail
                    go_roundw
                    case rel => exact HR2.out
                    case measure => simp [intOf]; omega
              · have hk3' : ¬ ((kn : Int) < 3) := by omega
                rw [HVo.out.2 hk3] at HP
                clear hk3
                go_wp2_with fail
                go_quiet ((go_at_call 67; exact Calls.quiet_of_same (HSg.out _)))
                have HBs := Lib.hid (HBd.out)
                obtain ⟨S1, hS1⟩ : ∃ S1, S1 = 91 :: (bd ++ 44 :: (n ++ sg)) := ⟨_, rfl⟩
                have HF := Lib.hid (show bodyT ms (k + 1) = S1 ++ joinB [124] (ss.map quoteL) by rw [HP.out, hS1]; simp [quotesL])
                have hS1l : S1.length ≤ 10000000 := by rw [hS1]; simp; omega
                go_wp2_with fail
                rw [← hS1, ← HW0.out]
                clear hS1
                go_loopw [8, 5] (fun j p wq => WRel B W0 ss S1 j p wq) (fun j _ _ => ss.length - (intOf j).toNat)
                case atStart => exact ⟨0, Nat.zero_le _, rfl, by simp [joinB], HBs.out _⟩
                case round =>
                  clear HBs
                  obtain ⟨j, hj, rfl, rfl, hbq⟩ := hrel
                  have HB4 := Lib.hid hbq
                  have HM4 := Lib.hid (HM0.out.below hbq hbB)
                  obtain ⟨c0, c1, c2, c3⟩ := HM4.out.cells
                  clear hbq
                  by_cases hjl : j < ss.length
                  · obtain ⟨b2, off2, rfl, hb2, hcs⟩ := (HUf.out _ HB4.out).at_ hjl
                    have HT := Lib.hid (qjoin_succ hjl)
                    have hsl := sl_getD hjl
                    have hjt := qjoin_le ss j
                    generalize ss.getD j [] = y at *
                    generalize joinB [124] ((ss.take j).map quoteL) = qq at *
                    have hql := (quoteL_len0 y).2
                    have HQt := Lib.hid (fun w => refQuote_any y w (by omega))
                    rcases Nat.eq_zero_or_pos j with hj0 | hj0
                    · have HT2 := Lib.hid (HT.out.trans (by rw [if_pos hj0]; rfl : _ = qq ++ quoteL y))
                      have hj1 : (j : Int) ≤ 0 := by omega
                      clear hj0 HT
                      go_wp2_with fail
                      refine (HQt.out _).mono ?_
                      rintro e w5 ⟨rfl, rfl⟩
                      go_wp2_with fail
                      go_roundw
                      case rel => exact ⟨j + 1, by omega, by go_num, by rw [HT2.out], HB4.out⟩
                      case measure => simp [intOf]; omega
                    · have HT2 := Lib.hid (HT.out.trans (by rw [if_neg (by omega)]; rfl : _ = qq ++ (124 :: quoteL y)))
                      have hj1 : (0 : Int) < (j : Int) := by omega
                      clear hj0 HT
                      go_wp2_with fail
                      refine (HQt.out _).mono ?_
                      rintro e w5 ⟨rfl, rfl⟩
                      go_wp2_with fail
                      go_roundw
                      case rel => exact ⟨j + 1, by omega, by go_num, by rw [HT2.out], HB4.out⟩
                      case measure => simp [intOf]; omega
                  · have hje : j = ss.length := by omega
                    have HT := Lib.hid (show joinB [124] ((ss.take j).map quoteL) = joinB [124] (ss.map quoteL) by rw [hje, List.take_of_length_le (Nat.le_refl _)])
                    rw [HT.out]
                    have HR2 := Lib.hid (show SRelM ms w (.int .i64 ((k : Int) + 1)) (.string (bs (S1 ++ joinB [124] (ss.map quoteL)))) wr from ⟨k + 1, by omega, rfl, by rw [HF.out], HB0.out.trans (HB4.out.mono hBw)⟩)
                    clear hje HT
                    go_wp2_with fail
                    go_roundw
                    case rel => exact HR2.out
                    case measure => simp [intOf]; omega
          · have hke : k = ms.length := by omega
            have HT := Lib.hid (show bodyT ms k = 91 :: bodyM ms by unfold bodyT; rw [hke, List.take_of_length_le (Nat.le_refl _)])
            have hbl := bodyM_len ms
            rw [HT.out]
            obtain ⟨bd, hbd⟩ : ∃ bd, bodyM ms = bd := ⟨_, rfl⟩
            have HBd := Lib.hid hbd
            rw [hbd] at hbl ⊢
            clear hke HT hbd
            go_wp2_with fail
            go_ret2
            exact ⟨by rw [HE.out, HBd.out]; rfl, HB.out⟩

end Go.Proofs.Ytamdkmcdleilpaa
