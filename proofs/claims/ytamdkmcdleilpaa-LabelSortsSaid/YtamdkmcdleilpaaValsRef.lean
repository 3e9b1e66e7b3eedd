/-
  Values, in the reference: wide, Value.
-/
import Derived.Test.YtamdkmcdleilpaaPlainVal
import Derived.BigQuiet
namespace Go.Proofs.Ytamdkmcdleilpaa
open Go.RowKit

set_option maxRecDepth 100000 in
set_option maxHeartbeats 1000000 in
theorem refWide_1 (l : Bytes) (h0 : 0 < l.length) (h1 : (byteAt l 0).toNat < 128) (w : World) :
    Calls Try.prog 54 #[.string (bs l)] w fun e w' => e = .returned (.int .i64 (refW l : Nat)) ∧ w = w' := by
  have HE := Lib.hid (refW_one h1)
  have hcc := (byteAt l 0).toNat_lt
  go_enter Try.func54, Try.ntmps54
  go_wp2_with fail
  go_ret
  exact ⟨by rw [HE.out]; rfl, rfl⟩
set_option maxRecDepth 100000 in
set_option maxHeartbeats 1000000 in
theorem refWide_0 (l : Bytes) (h0 : 0 < l.length) (h1 : ¬ (byteAt l 0).toNat < 128) (h2 : (byteAt l 0).toNat < 192 ∨ 248 ≤ (byteAt l 0).toNat) (w : World) :
    Calls Try.prog 54 #[.string (bs l)] w fun e w' => e = .returned (.int .i64 (refW l : Nat)) ∧ w = w' := by
  have HE := Lib.hid (refW_none h1 h2)
  have hcc := (byteAt l 0).toNat_lt
  rcases h2 with h2 | h2 <;>
  ( go_enter Try.func54, Try.ntmps54
    go_wp2_with fail
    go_ret
    exact ⟨by rw [HE.out]; rfl, rfl⟩)

set_option maxRecDepth 100000 in
set_option maxHeartbeats 2000000 in
theorem refWide_2 (l : Bytes) (h0 : 0 < l.length) (h1 : 192 ≤ (byteAt l 0).toNat) (h2 : (byteAt l 0).toNat < 224) (w : World) :
    Calls Try.prog 54 #[.string (bs l)] w fun e w' => e = .returned (.int .i64 (refW l : Nat)) ∧ w = w' := by
  have HL := Lib.hid (show Lead l 2 192 from .inl ⟨rfl, rfl, h1, h2⟩)
  have HR := Lib.hid (refW_lead HL.out)
  have hcc := (byteAt l 0).toNat_lt
  have HA := Lib.hid (show ((byteAt l 0).toNat : Int) - 192 = accum 192 l 1 from rfl)
  by_cases hn : l.length < 2
  · have HE := Lib.hid (HR.out.2.1 hn)
    go_enter Try.func54, Try.ntmps54
    go_wp2_with fail
    go_ret
    exact ⟨by rw [HE.out]; rfl, rfl⟩
  · go_enter Try.func54, Try.ntmps54
    go_wp2_with fail
    go_loop [5, 6] (fun a i => ∃ k : Nat, 1 ≤ k ∧ k ≤ 2 ∧ a = .int .i64 (accum 192 l k) ∧ i = .int .i64 k ∧ ∀ i, 1 ≤ i → i < k → isC l i = true)
      (fun a i => 2 - (intOf i).toNat)
    case atStart => exact ⟨1, by omega, by omega, by rw [← HA.out], rfl, fun i a b => absurd b (by omega)⟩
    case round =>
      clear hcc h1 h2
      obtain ⟨k, k1, k2, rfl, rfl, hc⟩ := hrel
      obtain ⟨a1, a2⟩ := accum_bd HL.out k k1 hc
      have HC := Lib.hid hc
      clear hc
      by_cases hlt : k < 2
      · have a3 : accum 192 l k < 131072 := by
          rcases (by omega : k = 1 ∨ k = 2 ∨ k = 3) with rfl | rfl | rfl <;> simp at a2 <;> omega
        have HS := Lib.hid (accum_succ (l := l) (base := 192) k1)
        have HN := Lib.hid (HR.out.2.2.1 k k1 hlt)
        have hix := idx_run l k (by omega)
        have HI := Lib.hid (show isC l k = (decide (128 ≤ (byteAt l k).toNat) && decide ((byteAt l k).toNat < 192)) from rfl)
        have hb := (byteAt l k).toNat_lt
        clear a2
        generalize accum 192 l k = a at *
        generalize (byteAt l k).toNat = c at *
        by_cases c1 : c < 128
        · have HE := Lib.hid (HN.out (by rw [HI.out, decide_eq_false (show ¬ 128 ≤ c by omega)]; rfl))
          go_wp2_with fail
          go_ret
          exact ⟨by rw [HE.out]; rfl, rfl⟩
        · by_cases c2 : 192 ≤ c
          · have HE := Lib.hid (HN.out (by rw [HI.out, decide_eq_false (show ¬ c < 192 by omega)]; simp))
            go_wp2_with fail
            go_ret
            exact ⟨by rw [HE.out]; rfl, rfl⟩
          · have HT := Lib.hid (show isC l k = true by rw [HI.out]; simp; omega)
            go_wp2_with fail
            go_round
            case rel =>
              refine ⟨_, _, _, ⟨k + 1, by omega, by omega, rfl, rfl, fun i b1 b2 => ?_⟩, rfl, by rw [HS.out], by go_num⟩
              by_cases e : i = k
              · rw [e]; exact HT.out
              · exact HC.out i b1 (by omega)
            case measure => simp [intOf]; omega
      · obtain rfl : k = 2 := by omega
        have HY := Lib.hid (HR.out.1 (by omega) HC.out)
        simp at a2
        generalize accum 192 l 2 = a at *
        by_cases q1 : a < 128
        · have HE := Lib.hid (HR.out.2.2.2 (fun h => by rcases h with ⟨_, h⟩ | ⟨h, _⟩ | ⟨h, _⟩ <;> omega))
          go_wp2_with fail
          go_ret
          exact ⟨by rw [HE.out]; rfl, rfl⟩
        · have HE := Lib.hid (HY.out (.inl ⟨rfl, by omega⟩))
          have q2 : a < 55296 := by omega
          go_wp2_with fail
          go_ret
          exact ⟨by rw [HE.out]; rfl, rfl⟩

set_option maxRecDepth 100000 in
set_option maxHeartbeats 2000000 in
theorem refWide_3 (l : Bytes) (h0 : 0 < l.length) (h1 : 224 ≤ (byteAt l 0).toNat) (h2 : (byteAt l 0).toNat < 240) (w : World) :
    Calls Try.prog 54 #[.string (bs l)] w fun e w' => e = .returned (.int .i64 (refW l : Nat)) ∧ w = w' := by
  have HL := Lib.hid (show Lead l 3 224 from .inr (.inl ⟨rfl, rfl, h1, h2⟩))
  have HR := Lib.hid (refW_lead HL.out)
  have hcc := (byteAt l 0).toNat_lt
  have HA := Lib.hid (show ((byteAt l 0).toNat : Int) - 224 = accum 224 l 1 from rfl)
  by_cases hn : l.length < 3
  · have HE := Lib.hid (HR.out.2.1 hn)
    go_enter Try.func54, Try.ntmps54
    go_wp2_with fail
    go_ret
    exact ⟨by rw [HE.out]; rfl, rfl⟩
  · go_enter Try.func54, Try.ntmps54
    go_wp2_with fail
    go_loop [5, 6] (fun a i => ∃ k : Nat, 1 ≤ k ∧ k ≤ 3 ∧ a = .int .i64 (accum 224 l k) ∧ i = .int .i64 k ∧ ∀ i, 1 ≤ i → i < k → isC l i = true)
      (fun a i => 3 - (intOf i).toNat)
    case atStart => exact ⟨1, by omega, by omega, by rw [← HA.out], rfl, fun i a b => absurd b (by omega)⟩
    case round =>
      clear hcc h1 h2
      obtain ⟨k, k1, k2, rfl, rfl, hc⟩ := hrel
      obtain ⟨a1, a2⟩ := accum_bd HL.out k k1 hc
      have HC := Lib.hid hc
      clear hc
      by_cases hlt : k < 3
      · have a3 : accum 224 l k < 131072 := by
          rcases (by omega : k = 1 ∨ k = 2 ∨ k = 3) with rfl | rfl | rfl <;> simp at a2 <;> omega
        have HS := Lib.hid (accum_succ (l := l) (base := 224) k1)
        have HN := Lib.hid (HR.out.2.2.1 k k1 hlt)
        have hix := idx_run l k (by omega)
        have HI := Lib.hid (show isC l k = (decide (128 ≤ (byteAt l k).toNat) && decide ((byteAt l k).toNat < 192)) from rfl)
        have hb := (byteAt l k).toNat_lt
        clear a2
        generalize accum 224 l k = a at *
        generalize (byteAt l k).toNat = c at *
        by_cases c1 : c < 128
        · have HE := Lib.hid (HN.out (by rw [HI.out, decide_eq_false (show ¬ 128 ≤ c by omega)]; rfl))
          go_wp2_with fail
          go_ret
          exact ⟨by rw [HE.out]; rfl, rfl⟩
        · by_cases c2 : 192 ≤ c
          · have HE := Lib.hid (HN.out (by rw [HI.out, decide_eq_false (show ¬ c < 192 by omega)]; simp))
            go_wp2_with fail
            go_ret
            exact ⟨by rw [HE.out]; rfl, rfl⟩
          · have HT := Lib.hid (show isC l k = true by rw [HI.out]; simp; omega)
            go_wp2_with fail
            go_round
            case rel =>
              refine ⟨_, _, _, ⟨k + 1, by omega, by omega, rfl, rfl, fun i b1 b2 => ?_⟩, rfl, by rw [HS.out], by go_num⟩
              by_cases e : i = k
              · rw [e]; exact HT.out
              · exact HC.out i b1 (by omega)
            case measure => simp [intOf]; omega
      · obtain rfl : k = 3 := by omega
        have HY := Lib.hid (HR.out.1 (by omega) HC.out)
        simp at a2
        generalize accum 224 l 3 = a at *
        by_cases q1 : a < 2048
        · have HE := Lib.hid (HR.out.2.2.2 (fun h => by rcases h with ⟨h, _⟩ | ⟨_, h⟩ | ⟨h, _⟩ <;> omega))
          go_wp2_with fail
          go_ret
          exact ⟨by rw [HE.out]; rfl, rfl⟩
        · by_cases q2 : 55296 ≤ a
          · by_cases q3 : a < 57344
            · have HE := Lib.hid (HR.out.2.2.2 (fun h => by rcases h with ⟨h, _⟩ | ⟨_, h⟩ | ⟨h, _⟩ <;> omega))
              go_wp2_with fail
              go_ret
              exact ⟨by rw [HE.out]; rfl, rfl⟩
            · have HE := Lib.hid (HY.out (.inr (.inl ⟨rfl, by omega⟩)))
              go_wp2_with fail
              go_ret
              exact ⟨by rw [HE.out]; rfl, rfl⟩
          · have HE := Lib.hid (HY.out (.inr (.inl ⟨rfl, by omega⟩)))
            go_wp2_with fail
            go_ret
            exact ⟨by rw [HE.out]; rfl, rfl⟩

set_option maxRecDepth 100000 in
set_option maxHeartbeats 2000000 in
theorem refWide_4 (l : Bytes) (h0 : 0 < l.length) (h1 : 240 ≤ (byteAt l 0).toNat) (h2 : (byteAt l 0).toNat < 248) (w : World) :
    Calls Try.prog 54 #[.string (bs l)] w fun e w' => e = .returned (.int .i64 (refW l : Nat)) ∧ w = w' := by
  have HL := Lib.hid (show Lead l 4 240 from .inr (.inr ⟨rfl, rfl, h1, h2⟩))
  have HR := Lib.hid (refW_lead HL.out)
  have hcc := (byteAt l 0).toNat_lt
  have HA := Lib.hid (show ((byteAt l 0).toNat : Int) - 240 = accum 240 l 1 from rfl)
  by_cases hn : l.length < 4
  · have HE := Lib.hid (HR.out.2.1 hn)
    go_enter Try.func54, Try.ntmps54
    go_wp2_with fail
    go_ret
    exact ⟨by rw [HE.out]; rfl, rfl⟩
  · go_enter Try.func54, Try.ntmps54
    go_wp2_with fail
    go_loop [5, 6] (fun a i => ∃ k : Nat, 1 ≤ k ∧ k ≤ 4 ∧ a = .int .i64 (accum 240 l k) ∧ i = .int .i64 k ∧ ∀ i, 1 ≤ i → i < k → isC l i = true)
      (fun a i => 4 - (intOf i).toNat)
    case atStart => exact ⟨1, by omega, by omega, by rw [← HA.out], rfl, fun i a b => absurd b (by omega)⟩
    case round =>
      clear hcc h1 h2
      obtain ⟨k, k1, k2, rfl, rfl, hc⟩ := hrel
      obtain ⟨a1, a2⟩ := accum_bd HL.out k k1 hc
      have HC := Lib.hid hc
      clear hc
      by_cases hlt : k < 4
      · have a3 : accum 240 l k < 131072 := by
          rcases (by omega : k = 1 ∨ k = 2 ∨ k = 3) with rfl | rfl | rfl <;> simp at a2 <;> omega
        have HS := Lib.hid (accum_succ (l := l) (base := 240) k1)
        have HN := Lib.hid (HR.out.2.2.1 k k1 hlt)
        have hix := idx_run l k (by omega)
        have HI := Lib.hid (show isC l k = (decide (128 ≤ (byteAt l k).toNat) && decide ((byteAt l k).toNat < 192)) from rfl)
        have hb := (byteAt l k).toNat_lt
        clear a2
        generalize accum 240 l k = a at *
        generalize (byteAt l k).toNat = c at *
        by_cases c1 : c < 128
        · have HE := Lib.hid (HN.out (by rw [HI.out, decide_eq_false (show ¬ 128 ≤ c by omega)]; rfl))
          go_wp2_with fail
          go_ret
          exact ⟨by rw [HE.out]; rfl, rfl⟩
        · by_cases c2 : 192 ≤ c
          · have HE := Lib.hid (HN.out (by rw [HI.out, decide_eq_false (show ¬ c < 192 by omega)]; simp))
            go_wp2_with fail
            go_ret
            exact ⟨by rw [HE.out]; rfl, rfl⟩
          · have HT := Lib.hid (show isC l k = true by rw [HI.out]; simp; omega)
            go_wp2_with fail
            go_round
            case rel =>
              refine ⟨_, _, _, ⟨k + 1, by omega, by omega, rfl, rfl, fun i b1 b2 => ?_⟩, rfl, by rw [HS.out], by go_num⟩
              by_cases e : i = k
              · rw [e]; exact HT.out
              · exact HC.out i b1 (by omega)
            case measure => simp [intOf]; omega
      · obtain rfl : k = 4 := by omega
        have HY := Lib.hid (HR.out.1 (by omega) HC.out)
        simp at a2
        generalize accum 240 l 4 = a at *
        by_cases q1 : a < 65536
        · have HE := Lib.hid (HR.out.2.2.2 (fun h => by rcases h with ⟨h, _⟩ | ⟨h, _⟩ | ⟨_, h⟩ <;> omega))
          go_wp2_with fail
          go_ret
          exact ⟨by rw [HE.out]; rfl, rfl⟩
        · by_cases q2 : 1114111 < a
          · have HE := Lib.hid (HR.out.2.2.2 (fun h => by rcases h with ⟨h, _⟩ | ⟨h, _⟩ | ⟨_, h⟩ <;> omega))
            go_wp2_with fail
            go_ret
            exact ⟨by rw [HE.out]; rfl, rfl⟩
          · have HE := Lib.hid (HY.out (.inr (.inr ⟨rfl, by omega⟩)))
            go_wp2_with fail
            go_ret
            exact ⟨by rw [HE.out]; rfl, rfl⟩

theorem refWide_any (l : Bytes) (h0 : 0 < l.length) (w : World) :
    Calls Try.prog 54 #[.string (bs l)] w fun e w' => e = .returned (.int .i64 (refW l : Nat)) ∧ w = w' := by
  by_cases a : (byteAt l 0).toNat < 128
  · exact refWide_1 l h0 a w
  · by_cases b : (byteAt l 0).toNat < 192 ∨ 248 ≤ (byteAt l 0).toNat
    · exact refWide_0 l h0 a b w
    · by_cases c : (byteAt l 0).toNat < 224
      · exact refWide_2 l h0 (by omega) c w
      · by_cases d : (byteAt l 0).toNat < 240
        · exact refWide_3 l h0 (by omega) d w
        · exact refWide_4 l h0 (by omega) (by omega) w

def lenStr : Value → Nat | .string b => b.size | _ => 0

/-- 's[k:]', under one name. -/
theorem vals_tail_run (l : Bytes) (k : Nat) (h : k ≤ l.length) (w : World) : (Instr.sliceAt 9 (.string (bs l)) (some (.int .i64 k)) none none).run Try.prog w = .ok (.string (bs (l.drop k))) w := by
  rw [run_sliceAt_string _ _ _ _ _ _ Try.underlying9, run_slice_string_l _ _ _ Try.underlying9 _ _ (by omega) (by rw [bs_size]; omega)]
  rw [bs_extract, bs_size, Int.toNat_natCast, List.take_of_length_le (by rw [List.length_drop]; omega)]

theorem valN_step {l : Bytes} {k : Nat} (h : k < l.length) : valN l.length (l.drop k) = if refW (l.drop k) = 0 then false else valN l.length (l.drop (k + refW (l.drop k))) := by
  have e : l.drop k ≠ [] := by intro h'; have := congrArg List.length h'; rw [List.length_drop] at this; simp at this; omega
  rw [refW_dec]
  obtain ⟨m, hm⟩ : ∃ m, l.length = m + 1 := ⟨l.length - 1, by omega⟩
  rw [hm]
  show (if l.drop k = [] then true else if Wd (dec (l.drop k)) = 0 then false else _) = _
  rw [if_neg e]
  by_cases hw : Wd (dec (l.drop k)) = 0
  · rw [if_pos hw, if_pos hw]
  · rw [if_neg hw, if_neg hw, List.drop_drop]
    exact valN_more _ _ _ (by rw [List.length_drop]; omega) (by rw [List.length_drop]; omega)
theorem refW_le {l : Bytes} (h : 0 < l.length) : refW l ≤ l.length := by
  rw [refW_dec]
  have := (dec_len (l := l) (by intro e; rw [e] at h; simp at h)).1
  unfold Wd; split <;> omega

set_option maxRecDepth 100000 in
set_option maxHeartbeats 1000000 in
theorem refValue_any (l : Bytes) (w : World) :
    Calls Try.prog 27 #[.string (bs l)] w fun e w' => e = .returned (.bool (valueB l)) ∧ w = w' := by
  by_cases h1 : 32 < l.length
  · have HE := Lib.hid (value_no h1)
    go_enter Try.func27, Try.ntmps27
    go_wp2_with fail
    go_ret
    exact ⟨by rw [HE.out]; rfl, rfl⟩
  · have HV := Lib.hid (show valueB l = valN l.length l by unfold valueB; rw [decide_eq_true (by omega)]; rfl)
    go_enter Try.func27, Try.ntmps27
    go_wp2_with fail
    go_loop [0, 3] (fun s n => ∃ k : Nat, k ≤ l.length ∧ s = .string (bs (l.drop k)) ∧ valN l.length (l.drop k) = valN l.length l)
      (fun s n => lenStr s)
    case atStart => exact ⟨0, Nat.zero_le _, rfl, rfl⟩
    case round =>
      obtain ⟨k, hk, rfl, hv⟩ := hrel
      have HQ := Lib.hid hv
      clear hv
      by_cases hlt : k < l.length
      · have hd : (l.drop k).length = l.length - k := List.length_drop
        have HS := Lib.hid (valN_step hlt)
        have hle := refW_le (l := l.drop k) (by omega)
        have HD : Hid (∀ n, (l.drop k).drop n = l.drop (k + n)) := Lib.hid (fun n => List.drop_drop)
        generalize l.drop k = m at *
        go_wp2_with fail
        refine (refWide_any m (by omega) _).mono ?_
        rintro e w1 ⟨rfl, rfl⟩
        have htl := vals_tail_run m (refW m) hle
        generalize refW m = n at *
        by_cases n0 : n = 0
        · subst n0
          have HE := Lib.hid (show valueB l = false by rw [HV.out, ← HQ.out, HS.out]; rfl)
          go_wp2_with fail
          go_ret
          exact ⟨by rw [HE.out]; rfl, rfl⟩
        · have hnz : ((n : Int) == 0) = false := by rw [beq_eq_false_iff_ne]; omega
          go_wp2_with fail
          go_round
          case rel => exact ⟨k + n, by omega, by rw [HD.out], by rw [← HQ.out, HS.out, if_neg n0]⟩
          case measure => simp [lenStr, bs_size]; omega
      · have hl : l.drop k = [] := List.drop_eq_nil_of_le (by omega)
        have HE := Lib.hid (show valueB l = true by rw [HV.out, ← HQ.out, hl]; cases l.length <;> simp [valN])
        rw [hl]
        go_wp2_with fail
        go_ret
        exact ⟨by rw [HE.out]; rfl, rfl⟩

end Go.Proofs.Ytamdkmcdleilpaa
