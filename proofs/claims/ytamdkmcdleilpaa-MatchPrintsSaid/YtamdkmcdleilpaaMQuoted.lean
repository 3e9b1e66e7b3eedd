/-
  match.quoted.
-/
import Derived.Test.YtamdkmcdleilpaaPlainM
namespace Go.Proofs.Ytamdkmcdleilpaa
open Go.RowKit

def mqT : Option (Bytes × Bytes) → Value
  | none => .tuple #[.string (bs []), .string (bs []), .bool false]
  | some (v, r) => .tuple #[.string (bs v), .string (bs r), .bool true]
theorem mqT_none : mqT none = .tuple #[.string (bs []), .string (bs []), .bool false] := rfl
theorem mqT_some (v r : Bytes) : mqT (some (v, r)) = .tuple #[.string (bs v), .string (bs r), .bool true] := rfl
theorem mq_end {s t : Bytes} {i : Nat} (h : qd s = (t, i + 1)) : mq s = some (t, s.drop (i + 1)) := by
  unfold mq; rw [h]; rfl
theorem mq_bad {s : Bytes} (h : qd s = ([], 0)) : mq s = none := by
  unfold mq; rw [h]; rfl

set_option maxRecDepth 100000 in
set_option maxHeartbeats 4000000 in
theorem mquoted_any (s : Bytes) (w : World) (hl : s.length ≤ 100000000) :
    Calls Try.prog 85 #[.string (bs s)] w fun e w' => e = .returned (mqT (mq s)) ∧ Below w.heap.size w w' := by
  by_cases h0 : 0 < s.length
  · have hix0 : ∀ w : World, (Instr.index 9 (.string (bs s)) (.int .i64 0)).run Try.prog w = .ok (.int .u8 (byteAt s 0).toNat) w := fun w => idx_run s 0 h0 w
    have n0 : (s == []) = false := by rw [beq_eq_false_iff_ne]; intro e; rw [e] at h0; simp at h0
    have n1 : s.isEmpty = false := by cases s with | nil => simp at h0 | cons _ _ => rfl
    by_cases h1 : byteAt s 0 = 34
    · have hx : (((byteAt s 0).toNat : Int) != 34) = false := by rw [h1]; rfl
      have HR := Lib.hid (show qd s = qdF s.length s 1 [] by unfold qd; rw [if_pos ⟨h0, h1⟩])
      have HF0 := Lib.hid (heap_alloc_new w (.cells #[.pointer none, .slice none 0 0] 64))
      have HH0 := Lib.hid (Hb.fresh w)
      have HB0 := Lib.hid ((Below.refl w.heap.size w).alloc (Nat.le_refl _) (.cells #[.pointer none, .slice none 0 0] 64))
      clear h1
      generalize byteAt s 0 = c0 at *
      go_enter Try.func85, Try.ntmps85
      go_wp2_with fail
      obtain ⟨B, hB⟩ : ∃ B, B = w.heap.size := ⟨_, rfl⟩
      have hBle : w.heap.size ≤ B := by omega
      rw [← hB] at HH0 HF0 HB0 ⊢
      clear hB
      go_loopw [6] (fun j wr => ∃ (n i : Nat) (t : Bytes), i ≤ s.length ∧ 1 ≤ i ∧ t.length ≤ i ∧ s.length < n + i + 1 ∧ j = .int .i64 i ∧ qdF n s i t = qd s ∧ Hb B (fun _ => none) t wr ∧ Below B w wr ∧
          (t = [] → wr.heap[B]? = some (.cells #[.pointer none, .slice none 0 0] 64 (0, 0))))
        (fun j wr => s.length - (intOf j).toNat)
      case atStart => exact ⟨s.length, 1, [], by omega, by omega, by simp, by omega, rfl, HR.out.symm, HH0.out, HB0.out, fun _ => HF0.out⟩
      case round =>
        clear hx hix0 n0 n1 HH0 HF0 HB0
        obtain ⟨n, i, t, hi, hi1, ht, hn, rfl, hq, hh, hbl, hz⟩ := hrel
        have HH := Lib.hid hh
        have HBl := Lib.hid hbl
        have HZ := Lib.hid hz
        clear hh hbl hz
        by_cases hlt : i < s.length
        · have hix := idx_run s i hlt
          have HQ := Lib.hid hq
          have H1 := Lib.hid (fun h => qdF_quote (t := t) hlt hn h)
          have H2 := Lib.hid (fun h => qdF_slash (t := t) hlt hn h)
          have H3 := Lib.hid (fun h h' => qdF_other (t := t) hlt hn h h')
          clear hq hn
          generalize byteAt s i = c at *
          by_cases c1 : c = 34
          · have d1 : ((c.toNat : Int) == 34) = true := by rw [c1]; rfl
            have HE := Lib.hid (mq_end (HQ.out.symm.trans (H1.out c1)))
            have hfr : ∀ w, (Instr.sliceAt 9 (.string (bs s)) (some (.int .i64 ((i : Int) + 1))) none none).run Try.prog w = .ok (.string (bs (s.drop (i + 1)))) w := fun w => sfrom_run s (i + 1) (by omega) w
            have hfr' : ∀ w, (Instr.slice 9 (.string (bs s)) (some (.int .i64 ((i : Int) + 1))) none none).run Try.prog w = .ok (.string (bs (s.drop (i + 1)))) w := fun w => by
              have := hfr w; rwa [run_sliceAt_string _ _ _ _ _ _ Try.underlying9] at this
            have hw1 : IntKind.i64.wrap ((i : Int) + 1) = (i : Int) + 1 := IntWalk.i64_in _ (by omega)
            have hs1 : (0 : Int) ≤ (i : Int) + 1 := by omega
            have hs2 : (i : Int) + 1 ≤ (s.length : Int) := by omega
            generalize s.drop (i + 1) = r at *
            clear c1 H1 H2 H3 HQ
            by_cases ht0 : t = []
            · have HZ2 := Lib.hid (HZ.out ht0)
              subst ht0
              clear HZ
              go_wp2_with fail
              go_region_with (go_at_call 52; refine (builderString_fresh (by first | exact HZ2.out | exact (show wr.drew.heap[B]? = _ from HZ2.out))).mono ?_; rintro e w4 ⟨rfl, rfl⟩)
              all_goals (go_wp2_with fail; go_ret3; exact ⟨by rw [HE.out]; rfl, HBl.out.drew.drew.mono hBle⟩)
            · clear HZ
              go_wp2_with fail
              go_region_with (go_at_call 52; refine (builderString_any (by first | exact HH.out.drew) ht0).mono ?_; rintro e w4 ⟨rfl, hb4⟩)
              all_goals
                (have H4 := Lib.hid (HBl.out.drew.trans hb4)
                 clear hb4
                 go_wp2_with fail
                 go_ret3
                 exact ⟨by rw [HE.out]; rfl, H4.out.mono hBle⟩)
          · have d1 : ((c.toNat : Int) == 34) = false := by
              rw [beq_eq_false_iff_ne]; intro e; exact c1 (UInt8.toNat_inj.1 (by show c.toNat = 34; omega))
            by_cases c2 : c = 92
            · have d2 : ((c.toNat : Int) == 92) = true := by rw [c2]; rfl
              have H2' := Lib.hid (H2.out c2)
              clear c1 c2
              by_cases hl2 : i + 1 < s.length
              · obtain ⟨m, hm, hqm⟩ := H2'.out.1 hl2
                have hix2 : ∀ w : World, (Instr.index 9 (.string (bs s)) (.int .i64 ((i : Int) + 1))).run Try.prog w = .ok (.int .u8 (byteAt s (i + 1)).toNat) w := fun w => idx_run s (i + 1) hl2 w
                have HE := Lib.hid (HQ.out.symm.trans hqm)
                have HU := Lib.hid (show unesc (byteAt s (i + 1)) = if byteAt s (i + 1) = 110 then 10 else byteAt s (i + 1) from rfl)
                have HM := Lib.hid hm
                have dl : (((i : Int) + 1) == (s.length : Int)) = false := by rw [beq_eq_false_iff_ne]; omega
                clear hqm hm
                generalize byteAt s (i + 1) = d at *
                by_cases c3 : d = 110
                · have d3 : ((d.toNat : Int) == 110) = true := by rw [c3]; rfl
                  have HV := Lib.hid (HU.out.trans (if_pos c3))
                  clear c3
                  go_wp2_with fail
                  refine (writeByte_any 10 HH.out (by omega)).mono ?_
                  rintro e w3 ⟨rfl, h3, b3⟩
                  have H3 := Lib.hid h3
                  have B3 := Lib.hid b3
                  clear h3 b3
                  go_wp2_with fail
                  go_roundw
                  case rel => exact ⟨m, i + 2, t ++ [10], by omega, by omega, by simp; omega, HM.out, by go_num, by rw [HE.out, HV.out], H3.out, HBl.out.trans B3.out, fun h => by simp at h⟩
                  case measure => simp [intOf]; omega
                · have d3 : ((d.toNat : Int) == 110) = false := by
                    rw [beq_eq_false_iff_ne]; intro e; exact c3 (UInt8.toNat_inj.1 (by show d.toNat = 110; omega))
                  have HV := Lib.hid (HU.out.trans (if_neg c3))
                  clear c3
                  go_wp2_with fail
                  refine (writeByte_any d HH.out (by omega)).mono ?_
                  rintro e w3 ⟨rfl, h3, b3⟩
                  have H3 := Lib.hid h3
                  have B3 := Lib.hid b3
                  clear h3 b3
                  go_wp2_with fail
                  go_roundw
                  case rel => exact ⟨m, i + 2, t ++ [d], by omega, by omega, by simp; omega, HM.out, by go_num, by rw [HE.out, HV.out], H3.out, HBl.out.trans B3.out, fun h => by simp at h⟩
                  case measure => simp [intOf]; omega
              · have dl : (((i : Int) + 1) == (s.length : Int)) = true := by rw [beq_iff_eq]; omega
                have HE := Lib.hid (mq_bad (HQ.out.symm.trans (H2'.out.2 hl2)))
                go_wp2_with fail
                go_ret3
                exact ⟨by rw [HE.out]; rfl, HBl.out.mono hBle⟩
            · have d2 : ((c.toNat : Int) == 92) = false := by
                rw [beq_eq_false_iff_ne]; intro e; exact c2 (UInt8.toNat_inj.1 (by show c.toNat = 92; omega))
              obtain ⟨m, hm, hqm⟩ := H3.out c1 c2
              have HE := Lib.hid (HQ.out.symm.trans hqm)
              have HM := Lib.hid hm
              clear c1 c2 hqm hm
              go_wp2_with fail
              refine (writeByte_any c HH.out (by omega)).mono ?_
              rintro e w3 ⟨rfl, h3, b3⟩
              have H3 := Lib.hid h3
              have B3 := Lib.hid b3
              clear h3 b3
              go_wp2_with fail
              go_roundw
              case rel => exact ⟨m, i + 1, t ++ [c], by omega, by omega, by simp; omega, HM.out, by go_num, HE.out.symm, H3.out, HBl.out.trans B3.out, fun h => by simp at h⟩
              case measure => simp [intOf]; omega
        · have HE := Lib.hid (mq_bad (hq.symm.trans (qdF_end hlt)))
          go_wp2_with fail
          go_ret3
          exact ⟨by rw [HE.out]; rfl, HBl.out.mono hBle⟩
    · have d1 : (((byteAt s 0).toNat : Int) != 34) = true := by
        rw [bne_iff_ne]; intro e; exact h1 (UInt8.toNat_inj.1 (by show (byteAt s 0).toNat = 34; omega))
      have HE := Lib.hid (mq_bad (show qd s = ([], 0) by unfold qd; rw [if_neg (fun h => h1 h.2)]))
      rw [HE.out, mqT_none]
      generalize byteAt s 0 = c0 at *
      go_enter Try.func85, Try.ntmps85
      go_wp2_with fail
      go_ret3
      exact ⟨rfl, Below.refl _ _⟩
  · have e : s = [] := List.eq_nil_of_length_eq_zero (by omega)
    subst e
    rw [show mqT (mq []) = .tuple #[.string (bs []), .string (bs []), .bool false] from rfl]
    go_enter Try.func85, Try.ntmps85
    go_wp2_with fail
    go_ret3
    exact ⟨rfl, Below.refl _ _⟩

end Go.Proofs.Ytamdkmcdleilpaa
