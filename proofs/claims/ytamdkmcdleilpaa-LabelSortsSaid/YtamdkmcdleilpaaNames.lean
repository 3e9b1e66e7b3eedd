/-
  Names and values: label.Name, label.Value, utf8.RuneLen; the reference's Name, wide, Value.
-/
import Derived.Test.YtamdkmcdleilpaaPlainUtf
import Derived.BigQuiet
namespace Go.Proofs.Ytamdkmcdleilpaa
open Go.RowKit

theorem decide_f {p : Prop} [Decidable p] (h : ¬ p) : decide p = false := decide_eq_false h

set_option maxRecDepth 100000 in
set_option maxHeartbeats 1000000 in
theorem refName_any (l : Bytes) (w : World) :
    Calls Try.prog 25 #[.string (bs l)] w fun e w' => e = .returned (.bool (nameB l)) ∧ w = w' := by
  by_cases h1 : l.length < 1
  · have HE := Lib.hid (nameB_no0 (.inl h1))
    go_enter Try.func25, Try.ntmps25
    go_wp2_with fail
    go_ret
    exact ⟨by rw [HE.out]; rfl, rfl⟩
  · by_cases h2 : 16 < l.length
    · have HE := Lib.hid (nameB_no0 (.inr h2))
      go_enter Try.func25, Try.ntmps25
      go_wp2_with fail
      go_ret
      exact ⟨by rw [HE.out]; rfl, rfl⟩
    · have h0 : 0 < l.length := by omega
      have HL := Lib.hid (fun e => nameB_noL (l := l) e)
      have hY := Lib.hid (fun h => nameB_yes (l := l) (by omega) (by omega) h)
      have hc := (byteAt l 0).toNat_lt
      by_cases c1 : (byteAt l 0).toNat < 97
      · have HE := Lib.hid (HL.out (by unfold low; rw [decide_f (by omega)]; rfl))
        go_enter Try.func25, Try.ntmps25
        go_wp2_with fail
        go_ret
        exact ⟨by rw [HE.out]; rfl, rfl⟩
      · by_cases c2 : 122 < (byteAt l 0).toNat
        · have HE := Lib.hid (HL.out (by unfold low; rw [decide_f (show ¬ (byteAt l 0).toNat ≤ 122 by omega)]; simp))
          go_enter Try.func25, Try.ntmps25
          go_wp2_with fail
          go_ret
          exact ⟨by rw [HE.out]; rfl, rfl⟩
        · have H0 := Lib.hid (show low (byteAt l 0).toNat = true by unfold low; simp; omega)
          go_enter Try.func25, Try.ntmps25
          go_wp2_with fail
          go_loop [3] (fun i => ∃ k : Nat, k ≤ l.length ∧ i = .int .i64 k ∧ OkTo l k)
            (fun i => l.length - (intOf i).toNat)
          case atStart => exact ⟨0, Nat.zero_le _, rfl, fun h => absurd h (by omega), fun i h => absurd h (by omega)⟩
          case round =>
            clear c1 c2 hc
            obtain ⟨k, hk, rfl, hok⟩ := hrel
            have HK := Lib.hid hok
            clear hok
            by_cases hlt : k < l.length
            · have HS := Lib.hid (fun h1 => HK.out.succ h1 (fun e => by subst e; exact H0.out))
              have HN := Lib.hid (fun e => nameB_noK hlt e)
              have hc := (byteAt l k).toNat_lt
              have hix := idx_run l k hlt
              generalize (byteAt l k).toNat = c at *
              by_cases a1 : 97 ≤ c ∧ c ≤ 122
              · obtain ⟨a1, a2⟩ := a1
                have HE := Lib.hid (HS.out (by unfold okC low; simp [a1, a2]))
                go_wp2_with fail
                go_round
                case rel => exact ⟨k + 1, by omega, by go_num, HE.out⟩
                case measure => simp [intOf]; omega
              · by_cases b1 : 48 ≤ c ∧ c ≤ 57
                · obtain ⟨b1, b2⟩ := b1
                  have HE := Lib.hid (HS.out (by unfold okC; simp [b1, b2]))
                  clear a1
                  go_wp2_with fail
                  go_round
                  case rel => exact ⟨k + 1, by omega, by go_num, HE.out⟩
                  case measure => simp [intOf]; omega
                · by_cases c1 : c = 95
                  · have HE := Lib.hid (HS.out (by unfold okC; simp [c1]))
                    subst c1
                    clear a1 b1
                    go_wp2_with fail
                    go_round
                    case rel => exact ⟨k + 1, by omega, by go_num, HE.out⟩
                    case measure => simp [intOf]; omega
                  · have HE := Lib.hid (HN.out (by
                      have e1 : low c = false := by unfold low; simp; omega
                      have e2 : (decide (48 ≤ c) && decide (c ≤ 57)) = false := by simp; omega
                      unfold okC; rw [e1, e2, decide_f c1]; rfl))
                    have hne : ((c : Int) != 95) = true := by rw [bne_iff_ne]; omega
                    have d1 : c < 97 ∨ 122 < c := by omega
                    have d2 : c < 48 ∨ 57 < c := by omega
                    clear a1 b1 c1
                    rcases d1 with d1 | d1 <;> rcases d2 with d2 | d2 <;> first
                      | omega
                      | (go_wp2_with fail
                         go_ret
                         exact ⟨by rw [HE.out]; rfl, rfl⟩)
            · have HE := Lib.hid (hY.out (by rw [← show k = l.length by omega]; exact HK.out))
              go_wp2_with fail
              go_ret
              exact ⟨by rw [HE.out]; rfl, rfl⟩

set_option maxRecDepth 100000 in
set_option maxHeartbeats 2000000 in
theorem name_any (l : Bytes) (w : World) :
    Calls Try.prog 24 #[.string (bs l)] w fun e w' => e = .returned (.bool (nameB l)) ∧ Below w.heap.size w w' := by
  by_cases h1 : l.length < 1
  · have HE := Lib.hid (nameB_no0 (.inl h1))
    obtain rfl : l = [] := List.eq_nil_of_length_eq_zero (by omega)
    clear h1
    go_enter Try.func24, Try.ntmps24
    go_wp2_with fail
    go_ret
    exact ⟨by rw [HE.out]; rfl, Below.refl _ _⟩
  · have hne : (l == ([] : Bytes)) = false := by rw [beq_eq_false_iff_ne]; intro e; rw [e] at h1; simp at h1
    have hne2 : l.isEmpty = false := by rw [List.isEmpty_eq_false_iff]; intro e; rw [e] at h1; simp at h1
    by_cases h2 : 16 < l.length
    · have HE := Lib.hid (nameB_no0 (.inr h2))
      go_enter Try.func24, Try.ntmps24
      go_wp2_with fail
      go_ret
      exact ⟨by rw [HE.out]; rfl, Below.refl _ _⟩
    · have hY := Lib.hid (fun h => nameB_yes (l := l) (by omega) (by omega) h)
      have HL := Lib.hid (fun e => nameB_noL (l := l) e)
      go_enter Try.func24, Try.ntmps24
      go_wp2_with fail
      go_loopw [] (fun wr => ∃ k : Nat, k ≤ l.length ∧ wr = w.iter (bs l) k ∧ OkTo l k)
        (fun wr => l.length - wr.iterPos w.heap.size)
      case atStart => exact ⟨0, Nat.zero_le _, rfl, fun h => absurd h (by omega), fun i h => absurd h (by omega)⟩
      case round =>
        obtain ⟨k, hk, rfl, hok⟩ := hrel
        have HK := Lib.hid hok
        clear hok
        by_cases hlt : k < l.length
        · have HNX := Lib.hid (fun ty => next_bs (P := Try.prog) w l k hlt ty)
          have HB := Lib.hid (byteAt_drop l k 0)
          have HS := Lib.hid (fun h1 h2 => HK.out.succ h1 h2)
          have HN := Lib.hid (fun e => nameB_noK hlt e)
          have hc := (byteAt l k).toNat_lt
          by_cases hasc : (byteAt l k).toNat < 128
          · have hnx := HNX.out
            have hd := dec_low (l := l.drop k) (by rw [HB.out]; exact hasc)
            rw [HB.out] at hd
            simp only [Nat.add_zero] at hd
            rw [hd] at hnx
            simp only [] at hnx
            clear hd HB HNX
            have H00 := Lib.hid (fun (h : k = 0) => (by subst h; rfl : (byteAt l k).toNat = (byteAt l 0).toNat))
            generalize (byteAt l k).toNat = c at *
            by_cases a1 : 97 ≤ c ∧ c ≤ 122
            · obtain ⟨a1, a2⟩ := a1
              have HE := Lib.hid (HS.out (by unfold okC low; simp [a1, a2]) (fun _ => by unfold low; simp [a1, a2]))
              go_wp2_with fail
              go_roundw
              case rel => exact ⟨k + 1, by omega, rfl, HE.out⟩
              case measure => simp; omega
            · have d1 : c < 97 ∨ 122 < c := by omega
              have Hnl := Lib.hid (show low c = false by unfold low; simp; omega)
              by_cases k0 : k = 0
              · have HE := Lib.hid (HL.out (by rw [← H00.out k0]; exact Hnl.out))
                subst k0
                clear a1
                rcases d1 with d1 | d1 <;>
                  ((try have hq : decide ((c : Int) ≤ 122) = false := decide_f (by omega))
                   go_wp2_with fail
                   go_ret
                   exact ⟨by rw [HE.out]; rfl, (Below.refl _ _).alloc (Nat.le_refl _) _⟩)
              · have hk0 : ((k : Int) == 0) = false := by rw [beq_eq_false_iff_ne]; omega
                by_cases b1 : 48 ≤ c ∧ c ≤ 57
                · obtain ⟨b1, b2⟩ := b1
                  have HE := Lib.hid (HS.out (by unfold okC; simp [b1, b2]) (fun e => absurd e k0))
                  have hne : ((c : Int) != 95) = true := by rw [bne_iff_ne]; omega
                  clear a1 d1 k0
                  go_wp2_with fail
                  go_roundw
                  case rel => exact ⟨k + 1, by omega, rfl, HE.out⟩
                  case measure => simp; omega
                · by_cases c1 : c = 95
                  · have HE := Lib.hid (HS.out (by unfold okC; simp [c1]) (fun e => absurd e k0))
                    subst c1
                    clear a1 b1 d1 k0
                    go_wp2_with fail
                    go_roundw
                    case rel => exact ⟨k + 1, by omega, rfl, HE.out⟩
                    case measure => simp; omega
                  · have HE := Lib.hid (HN.out (by
                      have e2 : (decide (48 ≤ c) && decide (c ≤ 57)) = false := by simp; omega
                      unfold okC; rw [Hnl.out, e2, decide_f c1]; rfl))
                    have hne : ((c : Int) != 95) = true := by rw [bne_iff_ne]; omega
                    have d2 : c < 48 ∨ 57 < c := by omega
                    clear a1 b1 c1 k0
                    rcases d1 with d1 | d1 <;> rcases d2 with d2 | d2 <;> first
                      | omega
                      | ((try have hq : decide ((c : Int) ≤ 122) = false := decide_f (by omega))
                         go_wp2_with fail
                         go_ret
                         exact ⟨by rw [HE.out]; rfl, (Below.refl _ _).alloc (Nat.le_refl _) _⟩)
          · have hd := dec_high (l := l.drop k) (by rw [HB.out]; exact hasc)
            have hnx := HNX.out
            have HE := Lib.hid (HN.out (by unfold okC low; simp; omega))
            generalize (dec (l.drop k)).1 = r at *
            generalize (dec (l.drop k)).2 = n at *
            obtain ⟨hd1, hd2, hd3, hd4⟩ := hd
            have hne : ((r : Int) != 95) = true := by rw [bne_iff_ne]; omega
            have hq : decide ((r : Int) ≤ 122) = false := decide_f (by omega)
            clear HB HNX hasc
            by_cases k0 : k = 0
            · subst k0
              go_wp2_with fail
              go_ret
              exact ⟨by rw [HE.out]; rfl, (Below.refl _ _).alloc (Nat.le_refl _) _⟩
            · have hk0 : ((k : Int) == 0) = false := by rw [beq_eq_false_iff_ne]; omega
              clear k0
              go_wp2_with fail
              go_ret
              exact ⟨by rw [HE.out]; rfl, (Below.refl _ _).alloc (Nat.le_refl _) _⟩
        · have hnx := fun ty => next_end (P := Try.prog) w l k hlt ty
          have HE := Lib.hid (hY.out (by rw [← show k = l.length by omega]; exact HK.out))
          go_wp2_with fail
          go_ret
          exact ⟨by rw [HE.out]; rfl, (Below.refl _ _).alloc (Nat.le_refl _) _⟩

end Go.Proofs.Ytamdkmcdleilpaa
