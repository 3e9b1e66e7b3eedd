/-
  The walk of strandlinelaw06.rising.
-/
import Derived.Test.YtlbnofaehkdlpaaInts6
import Derived.Test.YtlbnofaehkdlpaaPlain6
namespace Go.Proofs.Ytlbnofaehkdlpaa
open Go.RowKit

theorem rel_app {w wr w1 : World} {base : Nat} {v : Value} {xs : List Int} (hb : Below base w wr) (h1 : Own w1 base v xs) (h2 : Below base wr w1) : Own w1 base v xs ∧ Below base w w1 := ⟨h1, hb.trans h2⟩

set_option maxRecDepth 100000 in
set_option maxHeartbeats 400000 in
theorem rising_any (v : Value) (xs : List Int) (m : Nat) (w : World) (hv : Ints w v xs) (hm1 : m ≤ xs.length) (hm2 : m ≤ 200) (hm3 : m < xs.length → m = 200) :
    Calls Try.prog 8 #[v] w fun e w' => ∃ v', e = .returned v' ∧ Own w' w.heap.size v' (Rz xs m) ∧ Below w.heap.size w w' := by
  obtain ⟨a, cap, rfl, h1, h2, h3⟩ := hv
  have Hm3 := Lib.hid hm3
  clear hm3
  go_enter Try.func8, Try.ntmps8
  go_wp2
  go_loopw [3, 4] (fun v i wr => ∃ k : Nat, k ≤ m ∧ i = .int .i64 k ∧ Own wr w.heap.size v (Rz xs k) ∧ Below w.heap.size w wr)
    (fun _ i _ => m - (intOf i).toNat)
  case atStart => exact ⟨0, Nat.zero_le _, rfl, Own.made _ _ (Nat.le_refl _), (Below.refl _ _).alloc (Nat.le_refl _) _⟩
  case round =>
    obtain ⟨k, hk, rfl, hown, hbel⟩ := hrel
    obtain ⟨ao, co, rfl, ho1, ho2, ho3⟩ := hown.open_
    have hle := Rz_le xs k
    by_cases hlt : k < m
    · obtain ⟨b, off, rfl, hb, hcell⟩ := h3 (by intro h; subst h; simp at hm1; omega)
      have l1 : k < xs.length := by omega
      have hx : wr.cell? ⟨b, off + k, none⟩ = some (.int .i64 (xs.getD k 0)) := (hbel.cell (by exact hb)).trans (hcell k l1)
      have Hs := Lib.hid (Rz_succ xs k l1)
      have Hk := Lib.hid hlt
      have hsz := hbel.size
      have l2 : k < 200 := by omega
      clear hcell h3
      generalize xs.getD k 0 = x at *
      generalize Rz xs k = out at *
      by_cases h0 : out.length = 0
      · have Hd : Hid (Rz xs (k + 1) = out ++ [x]) := by rw [Hs.out, List.eq_nil_of_length_eq_zero h0]; rfl
        have hd0 : ((out.length : Int) == 0) = true := by rw [beq_iff_eq]; omega
        clear ho3 h0
        go_wp2_with fail
        go_quiet (fail)
        go_wp2_with (at_builtin; refine wpList_app1 _ rfl (.tmp 32) (.tmp 37) rfl w.heap.size _ out x rfl rfl hown hsz (by omega) ?_; intro v' w1 hown1 hbel1 _)
        go_roundw
        case rel => exact ⟨k + 1, Hk.out, by go_num, by rw [Hd.out]; exact hown1, (below_drewN hbel _).trans hbel1⟩
        case measure => simp [intOf]; omega
      · obtain ⟨g, rfl, hg1, hg2, hg3⟩ := ho3 (by omega)
        have hlast : wr.cell? ⟨g, out.length - 1, none⟩ = some (.int .i64 (out.getD (out.length - 1) 0)) := hg3 _ (by omega)
        have hd0 : ((out.length : Int) == 0) = false := by rw [beq_eq_false_iff_ne]; omega
        have hp : 0 < out.length := by omega
        have Ht : Hid (Rz xs (k + 1) = if out.getD (out.length - 1) 0 < x then out ++ [x] else out) := by rw [Hs.out]; exact if_neg h0
        clear hg3
        generalize out.getD (out.length - 1) 0 = y at *
        by_cases hyx : y < x
        · have Hd : Hid (Rz xs (k + 1) = out ++ [x]) := by rw [Ht.out, if_pos hyx]; rfl
          clear h0
          go_wp2_with fail
          go_quiet (fail)
          go_wp2_with (at_builtin; refine wpList_app1 _ rfl (.tmp 32) (.tmp 37) rfl w.heap.size _ out x rfl rfl hown hsz (by omega) ?_; intro v' w1 hown1 hbel1 _)
          go_roundw
          case rel => exact ⟨k + 1, Hk.out, by go_num, by rw [Hd.out]; exact hown1, (below_drewN hbel _).trans hbel1⟩
          case measure => simp [intOf]; omega
        · have Hd : Hid (Rz xs (k + 1) = out) := by rw [Ht.out, if_neg hyx]; rfl
          clear h0
          go_wp2_with fail
          go_quiet (fail)
          go_wp2_with fail
          go_roundw
          case rel => exact ⟨k + 1, Hk.out, by go_num, by rw [Hd.out]; exact hown, below_drewN hbel _⟩
          case measure => simp [intOf]; omega
    · have Hkk := Lib.hid (show k = m by omega)
      by_cases hl : k < xs.length
      · have h5 : (200:Int) ≤ k := by have := Hm3.out (by omega); omega
        clear ho3 h3 hle hlt hk
        go_wp2
        go_ret
        have := Hkk.out; subst this
        exact ⟨_, rfl, hown, hbel⟩
      · have h5 : xs.length ≤ k := by omega
        clear ho3 h3 hle hlt hk
        go_wp2
        go_ret
        have := Hkk.out; subst this
        exact ⟨_, rfl, hown, hbel⟩

/-- The rising ones of a list: a list that rises, of 200 at most. -/
theorem rising_some (xs : List Int) : ∃ X, Rising X ∧ X.length ≤ 200 ∧ ∀ v w, Ints w v xs →
    Calls Try.prog 8 #[v] w fun e w' => ∃ v', e = .returned v' ∧ Own w' w.heap.size v' X ∧ Below w.heap.size w w' := by
  rcases Nat.le_total xs.length 200 with h | h
  · exact ⟨Rz xs xs.length, Rz_rising _ _, Nat.le_trans (Rz_le _ _) h, fun v w hv => rising_any v xs _ w hv (Nat.le_refl _) h (fun h => absurd h (Nat.lt_irrefl _))⟩
  · exact ⟨Rz xs 200, Rz_rising _ _, Rz_le _ _, fun v w hv => rising_any v xs _ w hv h (Nat.le_refl _) (fun _ => rfl)⟩
end Go.Proofs.Ytlbnofaehkdlpaa
