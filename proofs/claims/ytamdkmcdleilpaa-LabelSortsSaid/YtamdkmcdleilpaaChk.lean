/-
  Check of labels, both ways.
-/
import Derived.Test.YtamdkmcdleilpaaLab
import Derived.Test.YtamdkmcdleilpaaNames
import Derived.Test.YtamdkmcdleilpaaVals
import Derived.Test.YtamdkmcdleilpaaValsRef
namespace Go.Proofs.Ytamdkmcdleilpaa
open Go.RowKit

/-- 'a <= b', of texts. -/
def leB (a b : Bytes) : Bool := Op.bytesLess a b || a == b
def chkFrom (last : Bytes) : List Lab → Bool
  | [] => true
  | x :: r => nameB x.1 && !(leB x.1 last) && !(x.2 == []) && valueB x.2 && chkFrom x.1 r
def chkL (ls : List Lab) : Bool := decide (ls.length ≤ 8) && chkFrom [] ls
def errL (b : Bool) : Int := if b then 0 else 40

theorem is_b0 {P : Program} {f : Nat} {args : Array Value} {w : World} {b c : Bool} {Q : World → Prop} (h : Calls P f args w fun e w' => e = .returned (.bool b) ∧ Q w') (e : b = c) :
    Calls P f args w fun e w' => e = .returned (.bool c) ∧ Q w' := e ▸ h
theorem St.tl {w0 w : World} {p : World → Prop} {l : List (World → Prop)} (h : St w0 w (p :: l)) : St w0 w l := ⟨h.bel, fun q hq => h.stay q (List.mem_cons_of_mem _ hq)⟩
theorem nil_beq {x : Bytes} {b : Bool} (h : (x == []) = b) : x.isEmpty = b := by
  rw [← h]; cases x <;> rfl
theorem chkFrom_step {ls : List Lab} {k : Nat} {last : Bytes} (h : k < ls.length) :
    chkFrom last (ls.drop k) = (nameB (ls.getD k ([], [])).1 && !(leB (ls.getD k ([], [])).1 last) && !((ls.getD k ([], [])).2 == []) && valueB (ls.getD k ([], [])).2 && chkFrom (ls.getD k ([], [])).1 (ls.drop (k + 1))) := by
  rw [drop_lab h]; rfl
theorem chkL_no {ls : List Lab} (h : chkFrom [] ls = false) : chkL ls = false := by unfold chkL; rw [h, Bool.and_false]
theorem chkL_yes {ls : List Lab} (h : chkFrom [] ls = true) : chkL ls = decide (ls.length ≤ 8) := by unfold chkL; rw [h, Bool.and_true]

set_option maxRecDepth 100000 in
set_option maxHeartbeats 2000000 in
theorem check_any (v : Value) (ls : List Lab) (w : World) (hv : Labels w v ls) :
    Calls Try.prog 33 #[v] w fun e w' => e = .returned (.int .i64 (errL (chkL ls))) ∧ Below w.heap.size w w' := by
  have HV := Lib.hid ((St.start w).add (fun w' => Labels w' v ls) (fun w' hb => hv.below hb))
  obtain ⟨a, cap, rfl, h1, h2, -⟩ := hv
  go_enter Try.func33, Try.ntmps33
  go_wp2_with fail
  go_loopw [8, 3, 5] (fun i s q wr => ∃ (k : Nat) (last : Bytes), k ≤ ls.length ∧ i = .int .i64 k ∧ s = .string (bs last) ∧ St w wr [fun w' => Labels w' (.slice a ls.length cap) ls] ∧ chkFrom last (ls.drop k) = chkFrom [] ls)
    (fun i s q wr => ls.length - (intOf i).toNat)
  case atStart => exact ⟨0, [], Nat.zero_le _, rfl, rfl, HV.out, rfl⟩
  case round =>
    obtain ⟨k, last, hk, rfl, rfl, hbl, hg⟩ := hrel
    have HB := Lib.hid hbl
    have HG := Lib.hid hg
    clear hg hbl
    by_cases hlt : k < ls.length
    · obtain ⟨b, off, rfl, hb, hc1, hc2⟩ := (HB.out.get 0 rfl).at_ hlt
      have HS := Lib.hid (HG.out.symm.trans (chkFrom_step hlt))
      generalize (ls.getD k ([], [])).1 = n at *
      generalize (ls.getD k ([], [])).2 = x at *
      have HX : Hid (St w (wr.alloc (.cells #[.string (bs n), .string (bs x)] 43)) [fun w' => w'.cell? ⟨wr.heap.size, 0, none⟩ = some (.string (bs n)) ∧ w'.cell? ⟨wr.heap.size, 1, none⟩ = some (.string (bs x)), fun w' => Labels w' (.slice (some ⟨b, off, none⟩) ls.length cap) ls]) := Lib.hid ((HB.out.alloc _).add _ (fun w' hb' =>
        ⟨(hb'.cell (p := ⟨wr.heap.size, 0, none⟩) (by simp)).trans (by rw [World.cell?_alloc_at _ _ _ _ rfl]; rfl), (hb'.cell (p := ⟨wr.heap.size, 1, none⟩) (by simp)).trans (by rw [World.cell?_alloc_at _ _ _ _ rfl]; rfl)⟩))
      cases e1 : nameB n with
      | false =>
        have HE := Lib.hid (show chkFrom [] ls = false by rw [HS.out, e1]; simp)
        clear HS
        have HN := Lib.hid e1
        clear e1
        go_wp2_with fail
        refine (is_b0 (name_any n _) HN.out).mono ?_
        rintro e w1 ⟨rfl, hd⟩
        have HX1 := Lib.hid (HX.out.step hd)
        clear hd
        obtain ⟨q1, q2⟩ := HX1.out.get 0 rfl
        go_wp2_with fail
        go_ret
        exact ⟨by rw [chkL_no HE.out]; rfl, HX1.out.bel⟩
      | true =>
        cases e2 : Op.bytesLess n last with
        | false =>
          cases e3 : (n == last) with
          | false =>
            cases e4 : (x == ([] : Bytes)) with
            | false =>
              have e4b := nil_beq e4
              cases e5 : valueB x with
              | false =>
                have HE := Lib.hid (show chkFrom [] ls = false by rw [HS.out, e1, e5]; simp)
                have HVV := Lib.hid e5
                clear e5 HS
                have HN := Lib.hid e1
                clear e1
                go_wp2_with fail
                refine (is_b0 (name_any n _) HN.out).mono ?_
                rintro e w1 ⟨rfl, hd⟩
                have HX1 := Lib.hid (HX.out.step hd)
                clear hd
                obtain ⟨q1, q2⟩ := HX1.out.get 0 rfl
                go_wp2_with fail
                refine (is_b0 (value_any x _) HVV.out).mono ?_
                rintro e w2 ⟨rfl, hd⟩
                have HX2 := Lib.hid (HX1.out.step hd)
                clear hd q1 q2
                obtain ⟨q1, q2⟩ := HX2.out.get 0 rfl
                go_wp2_with fail
                go_ret
                exact ⟨by rw [chkL_no HE.out]; rfl, HX2.out.bel⟩
              | true =>
                have HE := Lib.hid (show chkFrom n (ls.drop (k + 1)) = chkFrom [] ls by rw [HS.out, e1, e4, e5, show leB n last = false by unfold leB; rw [e2, e3]; rfl]; simp)
                have HVV := Lib.hid e5
                clear e5 HS
                have HN := Lib.hid e1
                clear e1
                go_wp2_with fail
                refine (is_b0 (name_any n _) HN.out).mono ?_
                rintro e w1 ⟨rfl, hd⟩
                have HX1 := Lib.hid (HX.out.step hd)
                clear hd
                obtain ⟨q1, q2⟩ := HX1.out.get 0 rfl
                go_wp2_with fail
                refine (is_b0 (value_any x _) HVV.out).mono ?_
                rintro e w2 ⟨rfl, hd⟩
                have HX2 := Lib.hid (HX1.out.step hd)
                clear hd q1 q2
                obtain ⟨q1, q2⟩ := HX2.out.get 0 rfl
                go_wp2_with fail
                go_roundw
                case rel => exact ⟨k + 1, n, by omega, by go_num, rfl, HX2.out.tl, HE.out⟩
                case measure => simp [intOf]; omega
            | true =>
              have HE := Lib.hid (show chkFrom [] ls = false by rw [HS.out, e1, e4]; simp)
              clear HS
              have HN := Lib.hid e1
              clear e1
              go_wp2_with fail
              refine (is_b0 (name_any n _) HN.out).mono ?_
              rintro e w1 ⟨rfl, hd⟩
              have HX1 := Lib.hid (HX.out.step hd)
              clear hd
              obtain ⟨q1, q2⟩ := HX1.out.get 0 rfl
              go_wp2_with fail
              go_ret
              exact ⟨by rw [chkL_no HE.out]; rfl, HX1.out.bel⟩
          | true =>
            have HE := Lib.hid (show chkFrom [] ls = false by rw [HS.out, e1, show leB n last = true by unfold leB; rw [e2, e3]; rfl]; simp)
            clear HS
            have HN := Lib.hid e1
            clear e1
            go_wp2_with fail
            refine (is_b0 (name_any n _) HN.out).mono ?_
            rintro e w1 ⟨rfl, hd⟩
            have HX1 := Lib.hid (HX.out.step hd)
            clear hd
            obtain ⟨q1, q2⟩ := HX1.out.get 0 rfl
            go_wp2_with fail
            go_ret
            exact ⟨by rw [chkL_no HE.out]; rfl, HX1.out.bel⟩
        | true =>
          have HE := Lib.hid (show chkFrom [] ls = false by rw [HS.out, e1, show leB n last = true by unfold leB; rw [e2]; rfl]; simp)
          clear HS
          have HN := Lib.hid e1
          clear e1
          go_wp2_with fail
          refine (is_b0 (name_any n _) HN.out).mono ?_
          rintro e w1 ⟨rfl, hd⟩
          have HX1 := Lib.hid (HX.out.step hd)
          clear hd
          obtain ⟨q1, q2⟩ := HX1.out.get 0 rfl
          go_wp2_with fail
          go_ret
          exact ⟨by rw [chkL_no HE.out]; rfl, HX1.out.bel⟩
    · have HE := Lib.hid (show chkFrom [] ls = true by rw [← HG.out, List.drop_eq_nil_of_le (by omega)]; rfl)
      by_cases h8 : ls.length ≤ 8
      · have HF := Lib.hid (show chkL ls = true by rw [chkL_yes HE.out]; exact decide_eq_true h8)
        go_wp2_with fail
        go_ret
        exact ⟨by rw [HF.out]; rfl, HB.out.bel⟩
      · have HF := Lib.hid (show chkL ls = false by rw [chkL_yes HE.out]; exact decide_eq_false h8)
        go_wp2_with fail
        go_ret
        exact ⟨by rw [HF.out]; rfl, HB.out.bel⟩

end Go.Proofs.Ytamdkmcdleilpaa
