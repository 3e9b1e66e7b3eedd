/-
  The reference's Quoted: what stands quoted ahead of a text.
-/
import Derived.Test.YtamdkmcdleilpaaQuote
namespace Go.Proofs.Ytamdkmcdleilpaa
open Go.RowKit

def unesc (c : UInt8) : UInt8 := if c = 110 then 10 else c
/-- Quoted text from place i on, t lying behind it. -/
def qdF : Nat → Bytes → Nat → Bytes → Bytes × Nat
  | 0, _, _, _ => ([], 0)
  | n + 1, s, i, t =>
    if i < s.length then
      (if byteAt s i = 34 then (t, i + 1)
       else if byteAt s i = 92 then (if i + 1 < s.length then qdF n s (i + 2) (t ++ [unesc (byteAt s (i + 1))]) else ([], 0))
       else qdF n s (i + 1) (t ++ [byteAt s i]))
    else ([], 0)
def qd (s : Bytes) : Bytes × Nat := if 0 < s.length ∧ byteAt s 0 = 34 then qdF s.length s 1 [] else ([], 0)

theorem qdF_end {n : Nat} {s t : Bytes} {i : Nat} (h : ¬ i < s.length) : qdF n s i t = ([], 0) := by
  cases n with
  | zero => rfl
  | succ n => simp only [qdF]; rw [if_neg h]
theorem qdF_quote {n : Nat} {s t : Bytes} {i : Nat} (h : i < s.length) (hn : s.length < n + i + 1) (hc : byteAt s i = 34) : qdF n s i t = (t, i + 1) := by
  obtain ⟨m, rfl⟩ : ∃ m, n = m + 1 := ⟨n - 1, by omega⟩
  simp only [qdF]; rw [if_pos h, if_pos hc]
theorem qdF_slash {n : Nat} {s t : Bytes} {i : Nat} (h : i < s.length) (hn : s.length < n + i + 1) (hc : byteAt s i = 92) :
    (i + 1 < s.length → ∃ m, s.length < m + (i + 2) + 1 ∧ qdF n s i t = qdF m s (i + 2) (t ++ [unesc (byteAt s (i + 1))])) ∧ (¬ i + 1 < s.length → qdF n s i t = ([], 0)) := by
  obtain ⟨m, rfl⟩ : ∃ m, n = m + 1 := ⟨n - 1, by omega⟩
  simp only [qdF]
  rw [if_pos h, if_neg (by rw [hc]; decide), if_pos hc]
  exact ⟨fun h => ⟨m, by omega, if_pos h⟩, fun h => if_neg h⟩
theorem qdF_other {n : Nat} {s t : Bytes} {i : Nat} (h : i < s.length) (hn : s.length < n + i + 1) (h1 : byteAt s i ≠ 34) (h2 : byteAt s i ≠ 92) :
    ∃ m, s.length < m + (i + 1) + 1 ∧ qdF n s i t = qdF m s (i + 1) (t ++ [byteAt s i]) := by
  obtain ⟨m, rfl⟩ : ∃ m, n = m + 1 := ⟨n - 1, by omega⟩
  exact ⟨m, by omega, by simp only [qdF]; rw [if_pos h, if_neg h1, if_neg h2]⟩

/-! ### what Quoted says of a quoted text -/
theorem byteAt_of_drop {s : Bytes} {i : Nat} {x : UInt8} {r : Bytes} (h : s.drop i = x :: r) : i < s.length ∧ byteAt s i = x ∧ s.drop (i + 1) = r := by
  have hl : i < s.length := by
    rcases Nat.lt_or_ge i s.length with h' | h'
    · exact h'
    · rw [List.drop_eq_nil_of_le h'] at h; cases h
  rw [drop_byte hl] at h
  injection h with h1 h2
  exact ⟨hl, h1, h2⟩
theorem qdF_esc : ∀ (a : Bytes) (n : Nat) (s t b : Bytes) (i : Nat), s.length < n + i + 1 → s.drop i = escL a ++ 34 :: b → qdF n s i t = (t ++ a, i + (escL a).length + 1)
  | [], n, s, t, b, i, hn, h => by
    obtain ⟨h1, h2, -⟩ := byteAt_of_drop (show s.drop i = 34 :: b from h)
    rw [qdF_quote h1 hn h2]
    simp [escL]
  | c :: a, n, s, t, b, i, hn, h => by
    have he : escL (c :: a) = escB c ++ escL a := rfl
    rw [he, List.append_assoc] at h
    by_cases c1 : c = 10
    · have hb : escB c = [92, 110] := by rw [c1]; rfl
      rw [hb] at h
      obtain ⟨p1, p2, p3⟩ := byteAt_of_drop (show s.drop i = 92 :: (110 :: (escL a ++ 34 :: b)) from h)
      obtain ⟨q1, q2, q3⟩ := byteAt_of_drop p3
      obtain ⟨m, hm, e⟩ := (qdF_slash (t := t) p1 hn p2).1 q1
      rw [e, qdF_esc a m s _ b (i + 2) hm q3, q2, he, hb, c1]
      simp [unesc]; omega
    · by_cases c2 : c = 34 ∨ c = 92
      · have hb : escB c = [92, c] := by unfold escB; rw [if_neg c1, if_pos c2]
        rw [hb] at h
        obtain ⟨p1, p2, p3⟩ := byteAt_of_drop (show s.drop i = 92 :: (c :: (escL a ++ 34 :: b)) from h)
        obtain ⟨q1, q2, q3⟩ := byteAt_of_drop p3
        obtain ⟨m, hm, e⟩ := (qdF_slash (t := t) p1 hn p2).1 q1
        have hu : unesc c = c := by unfold unesc; rw [if_neg (by rcases c2 with rfl | rfl <;> decide)]
        rw [e, qdF_esc a m s _ b (i + 2) hm q3, q2, he, hb, hu]
        simp; omega
      · have hb : escB c = [c] := by unfold escB; rw [if_neg c1, if_neg c2]
        rw [hb] at h
        obtain ⟨p1, p2, p3⟩ := byteAt_of_drop (show s.drop i = c :: (escL a ++ 34 :: b) from h)
        obtain ⟨m, hm, e⟩ := qdF_other (t := t) p1 hn (by rw [p2]; exact fun h => c2 (.inl h)) (by rw [p2]; exact fun h => c2 (.inr h))
        rw [e, qdF_esc a m s _ b (i + 1) hm p3, p2, he, hb]
        simp; omega
theorem qd_quote (a b : Bytes) : qd (quoteL a ++ b) = (a, (quoteL a).length) := by
  have e : quoteL a ++ b = 34 :: (escL a ++ 34 :: b) := by simp [quoteL]
  unfold qd
  rw [if_pos ⟨by rw [e]; simp, by rw [e]; rfl⟩]
  rw [qdF_esc a _ _ [] b 1 (by omega) (by rw [e]; rfl)]
  simp [quoteL]; omega
theorem quoteL_inj {a b : Bytes} (h : quoteL a = quoteL b) : a = b := by
  have h1 := qd_quote a []
  rw [h, qd_quote b []] at h1
  exact (Prod.mk.inj h1).1.symm
theorem quoteL_lf (a : Bytes) (i : Nat) (h : i < (quoteL a).length) : byteAt (quoteL a) i ≠ 10 := by
  have hall : ∀ x ∈ quoteL a, x ≠ 10 := by
    intro x hx
    simp only [quoteL, List.mem_cons, List.mem_append, escL, List.mem_flatMap, List.not_mem_nil, or_false] at hx
    rcases hx with rfl | ⟨c, -, hc⟩ | rfl
    · decide
    · unfold escB at hc
      split at hc
      · simp at hc; rcases hc with rfl | rfl <;> decide
      · rename_i c1
        split at hc
        · simp at hc; rcases hc with rfl | rfl
          · decide
          · exact c1
        · simp at hc; rw [hc]; exact c1
    · decide
  rw [byteAt_lt h]
  exact hall _ (List.getElem_mem h)
theorem quoteL_len (a : Bytes) : 2 ≤ (quoteL a).length ∧ (quoteL a).length ≤ 2 * a.length + 2 := by
  have := escL_len a
  simp [quoteL]; omega

set_option maxRecDepth 100000 in
set_option maxHeartbeats 2000000 in
theorem quoted_any (s : Bytes) (w : World) (hl : s.length ≤ 100000000) :
    Calls Try.prog 22 #[.string (bs s)] w fun e w' => e = .returned (.tuple #[.string (bs (qd s).1), .int .i64 (qd s).2]) ∧ w = w' := by
  by_cases h0 : 0 < s.length
  · have hcc := (byteAt s 0).toNat_lt
    by_cases h1 : byteAt s 0 = 34
    · have hx : ((byteAt s 0).toNat : Int) = 34 := by rw [h1]; rfl
      have HR := Lib.hid (show qd s = qdF s.length s 1 [] by unfold qd; rw [if_pos ⟨h0, h1⟩])
      have d0 : ((s.length : Int) == 0) = false := by rw [beq_eq_false_iff_ne]; omega
      clear h1
      go_enter Try.func22, Try.ntmps22
      go_wp2_with fail
      go_loop [4, 5] (fun u j => ∃ (n i : Nat) (t : Bytes), i ≤ s.length ∧ 1 ≤ i ∧ t.length ≤ i ∧ s.length < n + i + 1 ∧ u = .string (bs t) ∧ j = .int .i64 i ∧ qdF n s i t = qd s)
        (fun u j => s.length - (intOf j).toNat)
      case atStart => exact ⟨s.length, 1, [], by omega, by omega, by simp, by omega, rfl, rfl, HR.out.symm⟩
      case round =>
        clear hx hcc d0
        obtain ⟨n, i, t, hi, hi1, ht, hn, rfl, rfl, hq⟩ := hrel
        by_cases hlt : i < s.length
        · have hix := idx_run s i hlt
          have hsl := one_run s i hlt
          have HQ := Lib.hid hq
          have H1 := Lib.hid (fun h => qdF_quote (t := t) hlt hn h)
          have H2 := Lib.hid (fun h => qdF_slash (t := t) hlt hn h)
          have H3 := Lib.hid (fun h h' => qdF_other (t := t) hlt hn h h')
          clear hq hn
          generalize byteAt s i = c at *
          by_cases c1 : c = 34
          · have d1 : ((c.toNat : Int) == 34) = true := by rw [c1]; rfl
            have HE := Lib.hid ((HQ.out.symm.trans (H1.out c1)))
            clear c1 hsl
            go_wp2_with fail
            go_ret2
            exact ⟨by rw [HE.out]; rfl, rfl⟩
          · have d1 : ((c.toNat : Int) == 34) = false := by
              rw [beq_eq_false_iff_ne]; intro e; exact c1 (UInt8.toNat_inj.1 (by show c.toNat = 34; omega))
            by_cases c2 : c = 92
            · have d2 : ((c.toNat : Int) == 92) = true := by rw [c2]; rfl
              have H2' := Lib.hid (H2.out c2)
              clear c1 c2 hsl
              by_cases hl2 : i + 1 < s.length
              · obtain ⟨m, hm, hqm⟩ := H2'.out.1 hl2
                have hix2 : ∀ w : World, (Instr.index 9 (.string (bs s)) (.int .i64 ((i : Int) + 1))).run Try.prog w = .ok (.int .u8 (byteAt s (i + 1)).toNat) w := fun w => idx_run s (i + 1) hl2 w
                have hsl2 : ∀ w : World, (Instr.sliceAt 9 (.string (bs s)) (some (.int .i64 ((i : Int) + 1))) (some (.int .i64 ((i : Int) + 1 + 1))) none).run Try.prog w = .ok (.string (bs [byteAt s (i + 1)])) w := fun w => one_run s (i + 1) hl2 w
                have HE := Lib.hid (HQ.out.symm.trans hqm)
                have HU := Lib.hid (show unesc (byteAt s (i + 1)) = if byteAt s (i + 1) = 110 then 10 else byteAt s (i + 1) from rfl)
                have HM := Lib.hid hm
                have dl : (((i : Int) + 1) == (s.length : Int)) = false := by rw [beq_eq_false_iff_ne]; omega
                clear hqm hm
                generalize byteAt s (i + 1) = d at *
                by_cases c3 : d = 110
                · have d3 : ((d.toNat : Int) == 110) = true := by rw [c3]; rfl
                  have HV := Lib.hid (HU.out.trans (if_pos c3))
                  clear c3
                  go_wp2_with fail
                  go_round
                  case rel => exact ⟨m, i + 2, t ++ [10], by omega, by omega, by simp; omega, HM.out, rfl, by go_num, by rw [HE.out, HV.out]⟩
                  case measure => simp [intOf]; omega
                · have d3 : ((d.toNat : Int) == 110) = false := by
                    rw [beq_eq_false_iff_ne]; intro e; exact c3 (UInt8.toNat_inj.1 (by show d.toNat = 110; omega))
                  have HV := Lib.hid (HU.out.trans (if_neg c3))
                  clear c3
                  go_wp2_with fail
                  go_round
                  case rel => exact ⟨m, i + 2, t ++ [d], by omega, by omega, by simp; omega, HM.out, rfl, by go_num, by rw [HE.out, HV.out]⟩
                  case measure => simp [intOf]; omega
              · have dl : (((i : Int) + 1) == (s.length : Int)) = true := by rw [beq_iff_eq]; omega
                have HE := Lib.hid (HQ.out.symm.trans (H2'.out.2 hl2))
                go_wp2_with fail
                go_ret2
                exact ⟨by rw [HE.out]; rfl, rfl⟩
            · have d2 : ((c.toNat : Int) == 92) = false := by
                rw [beq_eq_false_iff_ne]; intro e; exact c2 (UInt8.toNat_inj.1 (by show c.toNat = 92; omega))
              obtain ⟨m, hm, hqm⟩ := H3.out c1 c2
              have HE := Lib.hid (HQ.out.symm.trans hqm)
              have HM := Lib.hid hm
              clear c1 c2 hqm hm
              go_wp2_with fail
              go_round
              case rel => exact ⟨m, i + 1, t ++ [c], by omega, by omega, by simp; omega, HM.out, rfl, by go_num, HE.out.symm⟩
              case measure => simp [intOf]; omega
        · have HE := Lib.hid (hq.symm.trans (qdF_end hlt))
          go_wp2_with fail
          go_ret2
          exact ⟨by rw [HE.out]; rfl, rfl⟩
    · have d1 : (((byteAt s 0).toNat : Int) != 34) = true := by
        rw [bne_iff_ne]; intro e; exact h1 (UInt8.toNat_inj.1 (by show (byteAt s 0).toNat = 34; omega))
      have d0 : ((s.length : Int) == 0) = false := by rw [beq_eq_false_iff_ne]; omega
      have HE := Lib.hid (show qd s = ([], 0) by unfold qd; rw [if_neg (fun h => h1 h.2)])
      go_enter Try.func22, Try.ntmps22
      go_wp2_with fail
      go_ret2
      exact ⟨by rw [HE.out]; rfl, rfl⟩
  · have e : s = [] := List.eq_nil_of_length_eq_zero (by omega)
    subst e
    go_enter Try.func22, Try.ntmps22
    go_wp2_with fail
    go_ret2
    exact ⟨rfl, rfl⟩

end Go.Proofs.Ytamdkmcdleilpaa
