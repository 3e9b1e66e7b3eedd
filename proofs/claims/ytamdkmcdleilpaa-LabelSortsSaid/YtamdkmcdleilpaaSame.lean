/-
  The document's Same of labels.
-/
import Derived.Test.YtamdkmcdleilpaaChkRef
import Derived.Test.YtamdkmcdleilpaaLarge
namespace Go.Proofs.Ytamdkmcdleilpaa
open Go.RowKit

theorem eq_lab (n x m y : Bytes) (w : World) : (Op.equalIn 10000 43 (.agg #[.string (bs n), .string (bs x)]) (.agg #[.string (bs m), .string (bs y)])).run Try.prog w = .ok (n == m && x == y) w := by
  have u3 := Try.underlying9
  have a3 := Try.isAgg9
  have z3 := Try.sizeOf9
  have hS : Try.prog.underlying 43 = some (.struct (Try.prog.fieldsOf 43)) := by kernel_rfl
  have hp : Try.prog.stoodInHeld 43 = false := by kernel_rfl
  rw [show (10000 : Nat) = 9999 + 1 from rfl, run_equalIn_agg w 9999 43 _ _ hS hp]
  simp only [Program.fieldsOf, Try.underlying43]
  cases h1 : n == m <;> cases h2 : x == y <;> go_simp
theorem neq_lab (n x m y : Bytes) (w : World) : (binOp .neq 43 (.agg #[.string (bs n), .string (bs x)]) (.agg #[.string (bs m), .string (bs y)])).run Try.prog w = .ok (.bool (!(n == m && x == y))) w := by
  rw [run_neq_struct, eq_lab]; rfl

theorem same_upto {ls ms : List Lab} (hl : ls.length = ms.length) (h : ∀ i, i < ls.length → ls.getD i ([], []) = ms.getD i ([], [])) : ls = ms := by
  apply List.ext_getElem hl
  intro i h1 h2
  have := h i h1
  simpa [List.getD, List.getElem?_eq_getElem h1, List.getElem?_eq_getElem h2] using this

set_option maxRecDepth 100000 in
set_option maxHeartbeats 1000000 in
theorem same_any (v u : Value) (ls ms : List Lab) (w : World) (hv : Labels w v ls) (hu : Labels w u ms) :
    Calls Try.prog 38 #[v, u] w fun e w' => e = .returned (.bool (ls == ms)) ∧ Below w.heap.size w w' := by
  have HV := Lib.hid hv
  have HU := Lib.hid hu
  obtain ⟨a, cap, rfl, h1, h2, -⟩ := hv
  obtain ⟨a', cap', rfl, h1', h2', -⟩ := hu
  have hI : (ls == ms) = decide (ls = ms) := by by_cases h : ls = ms <;> simp [h]
  rw [hI]
  clear hI
  by_cases hl : ls.length = ms.length
  · have HLe := Lib.hid hl
    have hml : ms.length = ls.length := hl.symm
    clear hl
    rw [hml] at HU h1' ⊢
    clear hml
    go_enter Try.func38, Try.ntmps38
    go_wp2_with fail
    go_loopw [5] (fun i wr => ∃ k : Nat, k ≤ ls.length ∧ i = .int .i64 k ∧ Below w.heap.size w wr ∧ ∀ i, i < k → ls.getD i ([], []) = ms.getD i ([], []))
      (fun i wr => ls.length - (intOf i).toNat)
    case atStart => exact ⟨0, Nat.zero_le _, rfl, Below.refl _ _, fun i h => absurd h (Nat.not_lt_zero _)⟩
    case round =>
      obtain ⟨k, hk, rfl, hb0, hx⟩ := hrel
      have HB1 := Lib.hid hb0
      have HX := Lib.hid hx
      clear hb0 hx
      by_cases hlt : k < ls.length
      · obtain ⟨b, off, rfl, hb, hc1, hc2⟩ := (HV.out.below HB1.out).at_ hlt
        obtain ⟨b', off', rfl, hb', hd1, hd2⟩ := (HU.out.below HB1.out).at_ (show k < ms.length by rw [← HLe.out]; exact hlt)
        have HN := Lib.hid (fun h : ls.getD k ([], []) ≠ ms.getD k ([], []) => show ls ≠ ms from fun e => h (by rw [e]))
        have HK := Lib.hid (fun h : ls.getD k ([], []) = ms.getD k ([], []) => show ∀ i, i < k + 1 → ls.getD i ([], []) = ms.getD i ([], []) from fun i hi => by
          rcases Nat.lt_or_ge i k with h' | h'
          · exact HX.out i h'
          · have : i = k := by omega
            rw [this]; exact h)
        generalize ls.getD k ([], []) = x at *
        generalize ms.getD k ([], []) = y at *
        obtain ⟨x1, x2⟩ := x
        obtain ⟨y1, y2⟩ := y
        simp only at hc1 hc2 hd1 hd2
        have hj0 : (0 : Int) ≤ (k : Int) := by omega
        have hj1 : (k : Int) < (ls.length : Int) := by omega
        have hn := fun w => neq_lab x1 x2 y1 y2 w
        cases hq : (x1 == y1 && x2 == y2) with
        | true =>
          have he : (x1, x2) = (y1, y2) := by simp only [Bool.and_eq_true, beq_iff_eq] at hq; rw [hq.1, hq.2]
          have HK1 := Lib.hid (HK.out he)
          rw [hq] at hn
          clear HK HN he hq
          go_wp2_with fail
          go_quiet (fail)
          go_wp2_with fail
          exact ⟨⟨k + 1, by omega, by go_num, below_drewN HB1.out _, HK1.out⟩, by simp [intOf]; omega⟩
        | false =>
          have he : (x1, x2) ≠ (y1, y2) := by intro e; injection e with e1 e2; rw [e1, e2] at hq; simp at hq
          have HK1 := Lib.hid (HN.out he)
          rw [hq] at hn
          clear HK HN he hq
          go_wp2_with fail
          go_quiet (fail)
          go_wp2_with fail
          go_ret
          exact ⟨by simp [HK1.out], below_drewN HB1.out _⟩
      · have HE := Lib.hid (same_upto HLe.out fun i hi => HX.out i (by omega))
        go_wp2_with fail
        go_ret
        exact ⟨by simp [HE.out], HB1.out⟩
  · have HE := Lib.hid (show ls ≠ ms from fun e => hl (by rw [e]))
    have hl' : ¬ ((ls.length : Int) = (ms.length : Int)) := by omega
    go_enter Try.func38, Try.ntmps38
    go_wp2_with fail
    go_ret
    exact ⟨by simp [HE.out], Below.refl _ _⟩

end Go.Proofs.Ytamdkmcdleilpaa
