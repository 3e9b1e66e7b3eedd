/-
  The reference's Check of labels.
-/
import Derived.Test.YtamdkmcdleilpaaChk
import Derived.Deep.QuietTactic
import Derived.BigQuiet
import Derived.IntWalk
namespace Go.Proofs.Ytamdkmcdleilpaa
open Go.RowKit

theorem refName_c {l : Bytes} {c : Bool} {w : World} (h : nameB l = c) :
    Calls Try.prog 25 #[.string (bs l)] w fun e w' => e = .returned (.bool c) ∧ w' = w := (h ▸ refName_any l w).mono fun _ _ ⟨he, hw⟩ => ⟨he, hw.symm⟩
theorem refValue_c {l : Bytes} {c : Bool} {w : World} (h : valueB l = c) :
    Calls Try.prog 27 #[.string (bs l)] w fun e w' => e = .returned (.bool c) ∧ w' = w := (h ▸ refValue_any l w).mono fun _ _ ⟨he, hw⟩ => ⟨he, hw.symm⟩
theorem name_le_nil {n : Bytes} (h : nameB n = true) : leB n [] = false := by
  have hn : n ≠ [] := by intro e; subst e; simp [nameB] at h
  unfold leB
  cases n with
  | nil => exact absurd rfl hn
  | cons x r => rfl

set_option maxRecDepth 100000 in
set_option maxHeartbeats 4000000 in
theorem refCheck_any (v : Value) (ls : List Lab) (w : World) (hv : Labels w v ls) :
    Calls Try.prog 58 #[v] w fun e w' => e = .returned (.int .i64 (errL (chkL ls))) ∧ Below w.heap.size w w' := by
  have HV := Lib.hid ((St.start w).add (fun w' => Labels w' v ls) (fun w' hb => hv.below hb))
  obtain ⟨a, cap, rfl, h1, h2, -⟩ := hv
  by_cases h8 : ls.length ≤ 8
  · have HL := Lib.hid (show chkL ls = chkFrom [] ls by unfold chkL; rw [decide_eq_true h8]; rfl)
    go_enter Try.func58, Try.ntmps58
    go_wp2_with fail
    go_loopw [3] (fun i wr => ∃ (k : Nat) (last : Bytes), k ≤ ls.length ∧ i = .int .i64 k ∧ (0 < k → (ls.getD (k - 1) ([], [])).1 = last) ∧ (k = 0 → last = []) ∧ St w wr [fun w' => Labels w' (.slice a ls.length cap) ls] ∧ chkFrom last (ls.drop k) = chkFrom [] ls)
      (fun i wr => ls.length - (intOf i).toNat)
    case atStart => exact ⟨0, [], Nat.zero_le _, rfl, fun h => absurd h (by omega), fun _ => rfl, HV.out, rfl⟩
    case round =>
      obtain ⟨k, last, hk, rfl, hla, hlz, hbl, hg⟩ := hrel
      have HB := Lib.hid hbl
      have HG := Lib.hid hg
      have HLA := Lib.hid hla
      have HLZ := Lib.hid hlz
      clear hg hbl hla hlz
      by_cases hlt : k < ls.length
      · obtain ⟨b, off, rfl, hb, hc1, hc2⟩ := (HB.out.get 0 rfl).at_ hlt
        have HS := Lib.hid (HG.out.symm.trans (chkFrom_step hlt))
        have HNX := Lib.hid (show 0 < k + 1 → (ls.getD (k + 1 - 1) ([], [])).1 = (ls.getD k ([], [])).1 from fun _ => rfl)
        have HPV := Lib.hid (fun (h : 0 < k) => ((HB.out.get 0 rfl).at_ (i := k - 1) (by omega)))
        generalize (ls.getD k ([], [])).1 = n at *
        generalize (ls.getD k ([], [])).2 = x at *
        cases e1 : nameB n with
        | false =>
          have HE := Lib.hid (show chkFrom [] ls = false by rw [HS.out, e1]; simp)
          have HN := Lib.hid e1
          clear e1 HS
          go_wp2_with fail
          go_quiet ((go_at_call 25; exact Calls.quiet_of_same (refName_c HN.out)))
          go_wp2_with fail
          go_ret
          exact ⟨by rw [HL.out, HE.out]; rfl, (HB.out.drew _).bel⟩
        | true =>
          cases e5 : valueB x with
          | false =>
            have HE := Lib.hid (show chkFrom [] ls = false by rw [HS.out, e1, e5]; simp)
            have HVV := Lib.hid e5
            clear e5
            have HN := Lib.hid e1
            clear e1 HS
            go_wp2_with fail
            go_quiet (first | (go_at_call 25; exact Calls.quiet_of_same (refName_c HN.out)) | (go_at_call 27; exact Calls.quiet_of_same (refValue_c HVV.out)))
            go_wp2_with fail
            go_ret
            exact ⟨by rw [HL.out, HE.out]; rfl, (HB.out.drew _).bel⟩
          | true =>
            cases e4 : (x == ([] : Bytes)) with
            | false =>
              have e4b := nil_beq e4
              by_cases hk0 : 0 < k
              · have hg0 : decide ((0 : Int) < (k : Int)) = true := decide_eq_true (by omega)
                have hw1 : IntKind.i64.wrap ((k : Int) - 1) = (k : Int) - 1 := IntWalk.i64_in _ (by omega)
                have hw2 : (0 : Int) ≤ (k : Int) - 1 := by omega
                have hw3 : ((k : Int) - 1).toNat = k - 1 := by omega
                have hw4 : (k : Int) - 1 < (ls.length : Int) := by omega
                obtain ⟨b', off', hbb, -, hp1, -⟩ := HPV.out hk0
                obtain ⟨rfl, rfl⟩ : b = b' ∧ off = off' := by simpa using hbb
                rw [HLA.out hk0] at hp1
                clear hbb
                cases e2 : Op.bytesLess n last with
                | false =>
                  cases e3 : (n == last) with
                  | false =>
                    have HE := Lib.hid (show chkFrom n (ls.drop (k + 1)) = chkFrom [] ls by rw [HS.out, e1, e4, e5, show leB n last = false by unfold leB; rw [e2, e3]; rfl]; simp)
                    have HVV := Lib.hid e5
                    clear e5
                    have HN := Lib.hid e1
                    clear e1 HS
                    go_wp2_with fail
                    go_quiet (first | (go_at_call 25; exact Calls.quiet_of_same (refName_c HN.out)) | (go_at_call 27; exact Calls.quiet_of_same (refValue_c HVV.out)))
                    go_wp2_with fail
                    go_roundw
                    case rel => exact ⟨k + 1, n, by omega, by go_num, HNX.out, fun h => absurd h (by omega), HB.out.drew _, HE.out⟩
                    case measure => simp [intOf]; omega
                  | true =>
                    have HE := Lib.hid (show chkFrom [] ls = false by rw [HS.out, e1, show leB n last = true by unfold leB; rw [e2, e3]; rfl]; simp)
                    have HVV := Lib.hid e5
                    clear e5
                    have HN := Lib.hid e1
                    clear e1 HS
                    go_wp2_with fail
                    go_quiet (first | (go_at_call 25; exact Calls.quiet_of_same (refName_c HN.out)) | (go_at_call 27; exact Calls.quiet_of_same (refValue_c HVV.out)))
                    go_wp2_with fail
                    go_ret
                    exact ⟨by rw [HL.out, HE.out]; rfl, (HB.out.drew _).bel⟩
                | true =>
                  have HE := Lib.hid (show chkFrom [] ls = false by rw [HS.out, e1, show leB n last = true by unfold leB; rw [e2]; rfl]; simp)
                  have HVV := Lib.hid e5
                  clear e5
                  have HN := Lib.hid e1
                  clear e1 HS
                  go_wp2_with fail
                  go_quiet (first | (go_at_call 25; exact Calls.quiet_of_same (refName_c HN.out)) | (go_at_call 27; exact Calls.quiet_of_same (refValue_c HVV.out)))
                  go_wp2_with fail
                  go_ret
                  exact ⟨by rw [HL.out, HE.out]; rfl, (HB.out.drew _).bel⟩
              · have hg0 : decide ((0 : Int) < (k : Int)) = false := decide_eq_false (by omega)
                have HE := Lib.hid (show chkFrom n (ls.drop (k + 1)) = chkFrom [] ls by rw [HS.out, e1, e4, e5, show leB n last = false by rw [HLZ.out (by omega)]; exact name_le_nil e1]; simp)
                have HVV := Lib.hid e5
                clear e5
                have HN := Lib.hid e1
                clear e1 HS
                go_wp2_with fail
                go_quiet (first | (go_at_call 25; exact Calls.quiet_of_same (refName_c HN.out)) | (go_at_call 27; exact Calls.quiet_of_same (refValue_c HVV.out)))
                go_wp2_with fail
                go_roundw
                case rel => exact ⟨k + 1, n, by omega, by go_num, HNX.out, fun h => absurd h (by omega), HB.out.drew _, HE.out⟩
                case measure => simp [intOf]; omega
            | true =>
              have e4b := nil_beq e4
              have HE := Lib.hid (show chkFrom [] ls = false by rw [HS.out, e1, e4]; simp)
              have HVV := Lib.hid e5
              clear e5
              have HN := Lib.hid e1
              clear e1 HS
              go_wp2_with fail
              go_quiet (first | (go_at_call 25; exact Calls.quiet_of_same (refName_c HN.out)) | (go_at_call 27; exact Calls.quiet_of_same (refValue_c HVV.out)))
              go_wp2_with fail
              go_ret
              exact ⟨by rw [HL.out, HE.out]; rfl, (HB.out.drew _).bel⟩
      · have HE := Lib.hid (show chkFrom [] ls = true by rw [← HG.out, List.drop_eq_nil_of_le (by omega)]; rfl)
        go_wp2_with fail
        go_ret
        exact ⟨by rw [HL.out, HE.out]; rfl, HB.out.bel⟩
  · have HL := Lib.hid (show chkL ls = false by unfold chkL; rw [decide_eq_false h8]; rfl)
    go_enter Try.func58, Try.ntmps58
    go_wp2_with fail
    go_ret
    exact ⟨by rw [HL.out]; rfl, Below.refl _ _⟩

end Go.Proofs.Ytamdkmcdleilpaa
