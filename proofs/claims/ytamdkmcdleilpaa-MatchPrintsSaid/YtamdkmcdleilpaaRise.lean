/-
  Texts of a matcher's set that rise.
-/
import Derived.Test.YtamdkmcdleilpaaChk
import Derived.Test.YtamdkmcdleilpaaMatch
import Derived.IntWalk
namespace Go.Proofs.Ytamdkmcdleilpaa
open Go.RowKit

def riseF (first : Bool) (last : Bytes) : List Bytes → Bool
  | [] => true
  | v :: r => valueB v && (first || !(leB v last)) && riseF false v r
theorem riseF_step {ss : List Bytes} {k : Nat} {f : Bool} {last : Bytes} (h : k < ss.length) :
    riseF f last (ss.drop k) = (valueB (ss.getD k []) && (f || !(leB (ss.getD k []) last)) && riseF false (ss.getD k []) (ss.drop (k + 1))) := by
  rw [drop_str h]; rfl

set_option maxRecDepth 100000 in
set_option maxHeartbeats 2000000 in
theorem rising_any (v : Value) (ss : List Bytes) (w : World) (hv : Strs w v ss) :
    Calls Try.prog 55 #[v] w fun e w' => e = .returned (.bool (riseF true [] ss)) ∧ Below w.heap.size w w' := by
  have HV := Lib.hid ((St.start w).add (fun w' => Strs w' v ss) (fun w' hb => hv.below hb))
  obtain ⟨a, cap, rfl, h1, h2, -⟩ := hv
  go_enter Try.func55, Try.ntmps55
  go_wp2_with fail
  go_loopw [7, 3, 4] (fun i u q wr => ∃ (k : Nat) (last : Bytes), k ≤ ss.length ∧ i = .int .i64 k ∧ (0 < k → ss.getD (k - 1) [] = last) ∧ St w wr [fun w' => Strs w' (.slice a ss.length cap) ss] ∧ riseF (decide (k = 0)) last (ss.drop k) = riseF true [] ss)
    (fun i u q wr => ss.length - (intOf i).toNat)
  case atStart => exact ⟨0, [], Nat.zero_le _, rfl, fun h => absurd h (by omega), HV.out, rfl⟩
  case round =>
    obtain ⟨k, last, hk, rfl, hla, hbl, hg⟩ := hrel
    have HB := Lib.hid hbl
    have HG := Lib.hid hg
    have HLA := Lib.hid hla
    clear hg hbl hla
    by_cases hlt : k < ss.length
    · obtain ⟨b, off, rfl, hb, hc1⟩ := (HB.out.get 0 rfl).at_ hlt
      have HS := Lib.hid (HG.out.symm.trans (riseF_step hlt))
      have HNX := Lib.hid (show 0 < k + 1 → ss.getD (k + 1 - 1) [] = ss.getD k [] from fun _ => rfl)
      generalize ss.getD k [] = n at *
      cases e1 : valueB n with
      | false =>
        have HE := Lib.hid (show riseF true [] ss = false by rw [HS.out, e1]; rfl)
        have HN := Lib.hid e1
        clear e1
        go_wp2_with fail
        refine (is_b0 (value_any n _) HN.out).mono ?_
        rintro e w1 ⟨rfl, hd⟩
        have HX1 := Lib.hid (HB.out.step hd)
        clear hd
        go_wp2_with fail
        go_ret
        exact ⟨by rw [HE.out]; rfl, HX1.out.bel⟩
      | true =>
        by_cases hk0 : 0 < k
        · have hg0 : decide ((0 : Int) < (k : Int)) = true := decide_eq_true (by omega)
          have HL := Lib.hid (show ∀ c, leB n last = c → riseF true [] ss = (!c && riseF false n (ss.drop (k + 1))) by
            intro c hc; rw [HS.out, e1, hc, show decide (k = 0) = false from decide_eq_false (by omega)]; simp)
          have HU := Lib.hid (show leB n last = (Op.bytesLess n last || n == last) from rfl)
          have HN := Lib.hid e1
          clear e1 HS
          have hstep : ∀ w1, Below wr.heap.size wr w1 → w1.cell? ⟨b, off + (k - 1), none⟩ = some (.string (bs last)) := by
            intro w1 hd
            obtain ⟨b', off', hbb, -, hp1⟩ := ((HB.out.step hd).get 0 rfl).at_ (i := k - 1) (by omega)
            obtain ⟨rfl, rfl⟩ : b = b' ∧ off = off' := by simpa using hbb
            rw [HLA.out hk0] at hp1
            exact hp1
          have HP := Lib.hid hstep
          clear hstep
          cases e2 : Op.bytesLess n last with
          | true =>
            have HE := Lib.hid (show riseF true [] ss = false by rw [HL.out true (by rw [HU.out, e2]; rfl)]; rfl)
            go_wp2_with fail
            refine (is_b0 (value_any n _) HN.out).mono ?_
            rintro e w1 ⟨rfl, hd⟩
            have HX1 := Lib.hid (HB.out.step hd)
            have hp1 := HP.out _ hd
            clear hd
            go_wp2_with fail
            go_ret
            exact ⟨by rw [HE.out]; rfl, HX1.out.bel⟩
          | false =>
            cases e3 : (n == last) with
            | true =>
              have HE := Lib.hid (show riseF true [] ss = false by rw [HL.out true (by rw [HU.out, e2, e3]; rfl)]; rfl)
              go_wp2_with fail
              refine (is_b0 (value_any n _) HN.out).mono ?_
              rintro e w1 ⟨rfl, hd⟩
              have HX1 := Lib.hid (HB.out.step hd)
              have hp1 := HP.out _ hd
              clear hd
              go_wp2_with fail
              go_ret
              exact ⟨by rw [HE.out]; rfl, HX1.out.bel⟩
            | false =>
              have HE := Lib.hid (show riseF (decide (k + 1 = 0)) n (ss.drop (k + 1)) = riseF true [] ss by rw [HL.out false (by rw [HU.out, e2, e3]; rfl)]; simp)
              go_wp2_with fail
              refine (is_b0 (value_any n _) HN.out).mono ?_
              rintro e w1 ⟨rfl, hd⟩
              have HX1 := Lib.hid (HB.out.step hd)
              have hp1 := HP.out _ hd
              clear hd
              go_wp2_with fail
              go_roundw
              case rel => exact ⟨k + 1, n, by omega, by go_num, HNX.out, HX1.out, HE.out⟩
              case measure => simp [intOf]; omega
        · have hg0 : decide ((0 : Int) < (k : Int)) = false := decide_eq_false (by omega)
          have HE := Lib.hid (show riseF (decide (k + 1 = 0)) n (ss.drop (k + 1)) = riseF true [] ss by
            rw [HS.out, e1, show decide (k = 0) = true from decide_eq_true (by omega)]; simp)
          have HN := Lib.hid e1
          clear e1 HS
          go_wp2_with fail
          refine (is_b0 (value_any n _) HN.out).mono ?_
          rintro e w1 ⟨rfl, hd⟩
          have HX1 := Lib.hid (HB.out.step hd)
          clear hd
          go_wp2_with fail
          go_roundw
          case rel => exact ⟨k + 1, n, by omega, by go_num, HNX.out, HX1.out, HE.out⟩
          case measure => simp [intOf]; omega
    · have HE := Lib.hid (show riseF true [] ss = true by rw [← HG.out, List.drop_eq_nil_of_le (by omega)]; rfl)
      go_wp2_with fail
      go_ret
      exact ⟨by rw [HE.out]; rfl, HB.out.bel⟩

end Go.Proofs.Ytamdkmcdleilpaa
