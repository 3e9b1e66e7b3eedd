/-
  delta.Encode.
-/
import Derived.Test.YtnjcelilljniaaaTEncP
import Derived.Deep.DrawnRows
namespace Go.Proofs.Ytnjcelilljniaaa
open Go.RowKit Go.Shelf

attribute [local go_sem] Oper.semAt_some

theorem keepT {b o : Nat} {c0 c1 : Value} {w w' : World} (h : w.cell? ⟨b, o, none⟩ = some c0 ∧ w.cell? ⟨b, o + 1, none⟩ = some c1) (hb : Below w.heap.size w w') :
    w'.cell? ⟨b, o, none⟩ = some c0 ∧ w'.cell? ⟨b, o + 1, none⟩ = some c1 := by
  have hlt : b < w.heap.size := World.block_lt_of_cell? w _ h.1
  exact ⟨(hb.cell (p := ⟨b, o, none⟩) hlt).trans h.1, (hb.cell (p := ⟨b, o + 1, none⟩) hlt).trans h.2⟩

set_option maxRecDepth 100000 in
set_option maxHeartbeats 4000000 in
attribute [local go_sem ↓] Go.wp_at_zero Go.wp_at_succ in
theorem enc_small (vv : Value) (n st : Nat) (v : Int) (w : World) (hv : Samples w vv (smpL n st v)) (hn : n < 2) (hst1 : 1 ≤ st) (hst : st ≤ 300) (hv0 : -9223372036854775808 ≤ v) (hv1 : v ≤ 9223372036854775807) :
    Calls Try.prog 4 #[vv] w fun e w' => e = .returned (.tuple #[.string (bs (encL n st v)), .int .i64 0]) ∧ Below w.heap.size w w' := by
  obtain ⟨a, cap, rfl, hnc, hcm⟩ : ∃ a cap, vv = .slice a n cap ∧ n ≤ cap ∧ cap ≤ 9223372036854775807 := by
    obtain ⟨a, cap, h1, h2, h3, _⟩ := hv
    rw [smpL_len] at h1 h2
    exact ⟨a, cap, h1, h2, h3⟩
  have HV := Lib.hid hv
  clear hv
  go_enter Try.func4, Try.ntmps4
  go_wp2_with fail
  go_loopw [22, 4] (fun x y wr => ∃ (k : Nat) (last : Int), x = .int .i64 k ∧ k ≤ n ∧ y = .int .i64 last ∧ -1 ≤ last ∧ last < (k * st : Nat) ∧ last ≤ 100000 ∧ Below w.heap.size w wr)
    (fun x y wr => n - (intOf x).toNat)
  case atStart => exact ⟨0, -1, rfl, Nat.zero_le _, rfl, by omega, by omega, by omega, Below.refl _ _⟩
  case round =>
    obtain ⟨k, last, rfl, hk, rfl, hl0, hl1, hl2, hbl⟩ := hrel
    have HB := Lib.hid hbl
    have HV1 := Lib.hid (HV.out.below hbl)
    clear hbl
    by_cases hlt : k < n
    · obtain ⟨b, off, rfl, hbs, c0, c1⟩ := HV1.out.at_ (i := k) (by rw [smpL_len]; exact hlt)
      rw [smpL_get hlt] at c0 c1
      have hmul : (k + 1) * st = k * st + st := Nat.succ_mul _ _
      have hkb : k * st ≤ 90 * 300 := Nat.mul_le_mul (by omega) hst
      simp only at c0 c1
      have HMul := Lib.hid hmul
      generalize k * st = x0 at *
      clear hmul
      go_wp2_with fail
      go_roundw
      case rel => exact ⟨k + 1, (x0 : Int), by go_num, by omega, rfl, by omega, by rw [HMul.out]; omega, by omega, HB.out.alloc HB.out.size _⟩
      case measure => simp [intOf]; omega
    · have hke : n = k := by omega
      subst hke
      clear hl0 hl1 hl2
      go_wp2_with fail
      refine (uint_any n _ (by omega)).mono ?_
      rintro e w1 ⟨rfl, b1⟩
      have HB1 := Lib.hid (HB.out.trans (b1.mono HB.out.size))
      have HV2 := Lib.hid (HV1.out.below b1)
      clear b1 HV1 HB
      by_cases h0 : n = 0
      · subst h0
        go_wp2_with fail
        go_ret2
        exact ⟨rfl, HB1.out⟩
      · obtain ⟨b, off, rfl, hbs, c0, c1⟩ := HV2.out.at_ (i := 0) (by rw [smpL_len]; omega)
        rw [smpL_get (by omega)] at c0 c1
        simp only [Nat.zero_mul, Nat.add_zero] at c0 c1
        have hlt0 : (0 : Int) < n := by omega
        have hu0 := uintL_len10 (n := 0) (by omega)
        have hun := uintL_len10 (n := n) (by omega)
        have huv := uintL_len10 (foldN_lt hv0 hv1)
        have hg1 : ¬ ((uintL 0).length + (uintL (foldN v)).length > 9223372036854775807) := by omega
        have hg2 : ¬ ((uintL n).length + (uintL 0 ++ uintL (foldN v)).length > 9223372036854775807) := by rw [List.length_append]; omega
        have hg3 : ¬ ((uintL n).length + ((uintL 0).length + (uintL (foldN v)).length) > 9223372036854775807) := by omega
        clear hu0 hun huv
        go_wp2_with fail
        go_region_held3 (fun w' => w'.cell? ⟨b, off, none⟩ = some (.int .i64 0) ∧ w'.cell? ⟨b, off + 1, none⟩ = some (.int .i64 v)) (first | exact keepT (by assumption) hb2 | exact keepT (by assumption) hb1 | go_keep)
          (first
            | (go_at_call 8; refine (uint_any 0 _ (by omega)).mono ?_; rintro e w2 ⟨rfl, hb1⟩)
            | (go_at_call 9; refine (int_any v _ hv0 hv1).mono ?_; rintro e w3 ⟨rfl, hb2⟩))
        have HB3 := Lib.hid (HB1.out.drew.trans (hb1.mono HB1.out.size))
        have HB4 := Lib.hid (HB3.out.trans (hb2.mono HB3.out.size))
        obtain rfl : n = 1 := by omega
        go_wp2_with fail
        go_ret2
        exact ⟨by unfold encL; rw [if_neg (by omega), if_pos (by omega), List.append_nil]; rfl, HB4.out⟩

end Go.Proofs.Ytnjcelilljniaaa
