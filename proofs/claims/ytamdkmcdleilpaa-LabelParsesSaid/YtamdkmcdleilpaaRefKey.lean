/-
  strandlineref01.Text of short texts; strandlineref04.Key.
-/
import Derived.Test.YtamdkmcdleilpaaKey
namespace Go.Proofs.Ytamdkmcdleilpaa
open Go.RowKit

set_option maxRecDepth 100000 in
set_option maxHeartbeats 1000000 in
theorem refUint_any (n : Nat) (w : World) (hn : n < 128) :
    Calls Try.prog 82 #[.int .u64 n] w fun e w' => e = .returned (.string (bs [UInt8.ofNat n])) ∧ Below w.heap.size w w' := by
  have h1 : ¬ ((127 : Int) < (n : Int)) := by omega
  have h2 : IntKind.u8.wrap (n : Int) = (n : Int) := IntWalk.u8_in _ (by omega)
  have h3 : ((UInt8.ofNat n).toNat : Int) = (n : Int) := by
    have : (UInt8.ofNat n).toNat = n := by simp; omega
    omega
  have hcv : (convert 62 9 (.slice (some ⟨w.heap.size, 0, none⟩) 1 1)).run Try.prog (w.alloc (.cells #[.int .u8 (n : Int)] 5)) = .ok (.string (bs [UInt8.ofNat n])) (w.alloc (.cells #[.int .u8 (n : Int)] 5)) := by
    refine run_convert_bytes_back _ 62 9 5 ⟨w.heap.size, 0, none⟩ 1 [UInt8.ofNat n] Try.underlying62 Try.underlying5 Try.underlying9 (fun j hj => ?_)
    have : j = 0 := by simpa using hj
    subst this
    rw [Addr.add_lit, World.cell?_alloc_at _ _ _ _ rfl]
    show some (Value.int .u8 (n : Int)) = some (.int .u8 (((UInt8.ofNat n).toNat : Nat) : Int))
    rw [h3]
  clear h3
  go_enter Try.func82, Try.ntmps82
  go_wp2_with fail
  go_loopw [0, 3] (fun q p wr => q = .int .u64 n ∧ p = .string (bs []) ∧ wr = w) (fun q p wr => 0)
  case atStart => exact ⟨rfl, rfl, rfl⟩
  case round =>
    obtain ⟨rfl, rfl, rfl⟩ := hrel
    go_wp2_with fail
    go_ret
    exact ⟨rfl, (Below.refl _ _).alloc (Nat.le_refl _) _⟩

set_option maxRecDepth 100000 in
theorem refText_any (l : Bytes) (w : World) (hl : l.length < 128) :
    Calls Try.prog 66 #[.string (bs l)] w fun e w' => e = .returned (.string (bs (UInt8.ofNat l.length :: l))) ∧ Below w.heap.size w w' := by
  have h1 : IntKind.u64.wrap (l.length : Int) = (l.length : Int) := IntWalk.u64_in _ (by omega)
  go_enter Try.func66, Try.ntmps66
  go_wp2_with fail
  refine (refUint_any l.length _ hl).mono ?_
  rintro e w1 ⟨rfl, hd⟩
  have HB := Lib.hid hd
  clear hd
  go_wp2_with fail
  go_ret
  exact ⟨rfl, HB.out⟩

theorem keepLab {b o : Nat} {c0 c1 : Value} {w w' : World} (h : w.cell? ⟨b, o, none⟩ = some c0 ∧ w.cell? ⟨b, o + 1, none⟩ = some c1) (hb : Below w.heap.size w w') :
    w'.cell? ⟨b, o, none⟩ = some c0 ∧ w'.cell? ⟨b, o + 1, none⟩ = some c1 := by
  have hlt : b < w.heap.size := World.block_lt_of_cell? w _ h.1
  exact ⟨(hb.cell (p := ⟨b, o, none⟩) hlt).trans h.1, (hb.cell (p := ⟨b, o + 1, none⟩) hlt).trans h.2⟩

set_option maxRecDepth 100000 in
set_option maxHeartbeats 4000000 in
attribute [local go_sem ↓] Go.wp_at_zero Go.wp_at_succ in
theorem refKey_any (v : Value) (ls : List Lab) (w : World) (hv : Labels w v ls) :
    Calls Try.prog 43 #[v] w fun e w' => e = .returned (.tuple #[.string (bs (printK (keyL ls) (chkL ls))), .int .i64 (errL (chkL ls))]) ∧ Below w.heap.size w w' := by
  have HL0 := Lib.hid hv
  have HCk := Lib.hid (refCheck_any v ls w hv)
  obtain ⟨a, cap, rfl, h1, h2, -⟩ := hv
  cases hb : chkL ls with
  | false =>
    rw [hb, show errL false = 40 from rfl] at HCk
    go_enter Try.func43, Try.ntmps43
    go_wp2_with fail
    refine HCk.out.mono ?_
    rintro e w1 ⟨rfl, hd⟩
    have HB := Lib.hid hd
    clear hd HCk
    go_wp2_with fail
    go_loopw [6, 5] (fun i p wr => i = .int .i64 0 ∧ p = .string (bs []) ∧ wr = w1) (fun i p wr => 0)
    case atStart => exact ⟨rfl, rfl, rfl⟩
    case round =>
      obtain ⟨rfl, rfl, rfl⟩ := hrel
      rcases Nat.eq_zero_or_pos ls.length with h0 | h0
      · have hl0 : ¬ ((0 : Int) < (ls.length : Int)) := by omega
        go_wp2_with fail
        go_ret2
        exact ⟨rfl, HB.out⟩
      · have hl0 : ((0 : Int) < (ls.length : Int)) := by omega
        go_wp2_with fail
        go_ret2
        exact ⟨rfl, HB.out⟩
  | true =>
    rw [hb, show errL true = 0 from rfl] at HCk
    obtain ⟨hl8, hlx⟩ := chk_lens hb
    have HLx := Lib.hid hlx
    clear hb hlx
    go_enter Try.func43, Try.ntmps43
    go_wp2_with fail
    refine HCk.out.mono ?_
    rintro e w1 ⟨rfl, hd⟩
    have HB1 := Lib.hid hd
    clear hd HCk
    go_wp2_with fail
    go_loopw [6, 5] (fun i p wr => ∃ k : Nat, k ≤ ls.length ∧ i = .int .i64 k ∧ p = .string (bs (keyL (ls.take k))) ∧ Below w.heap.size w wr)
      (fun i p wr => ls.length - (intOf i).toNat)
    case atStart => exact ⟨0, Nat.zero_le _, rfl, rfl, HB1.out⟩
    case round =>
      obtain ⟨k, hk, rfl, rfl, hbb⟩ := hrel
      have HB := Lib.hid hbb
      clear hbb
      by_cases hlt : k < ls.length
      · obtain ⟨b, off, rfl, hb, hc1, hc2⟩ := (HL0.out.below HB.out).at_ hlt
        have HK := Lib.hid (keyL_succ hlt)
        have hkl := keyL_len (ls := ls.take k) (fun x hx => HLx.out x (List.mem_of_mem_take hx))
        have htk : (ls.take k).length ≤ ls.length := by simp; omega
        have hlx := HLx.out (ls.getD k ([], [])) (by simp only [List.getD, List.getElem?_eq_getElem hlt, Option.getD_some]; exact List.getElem_mem hlt)
        generalize ls.getD k ([], []) = x at *
        obtain ⟨n, y⟩ := x
        simp only at hlx hc1 hc2
        have HKp := Lib.hid (show keyPart (n, y) = (UInt8.ofNat n.length :: n) ++ (UInt8.ofNat y.length :: y) from rfl)
        rw [HKp.out, ← List.append_assoc] at HK
        generalize keyL (ls.take k) = kl at *
        have hg1 : ¬ (kl.length + (UInt8.ofNat n.length :: n).length > 9223372036854775807) := by simp; omega
        have hg2 : ¬ ((kl ++ (UInt8.ofNat n.length :: n)).length + (UInt8.ofNat y.length :: y).length > 9223372036854775807) := by simp; omega
        have hg3 : ¬ (9223372036854775807 < kl.length + (n.length + 1)) := by omega
        have hg4 : ¬ (9223372036854775807 < kl.length + (n.length + 1) + (y.length + 1)) := by omega
        have hln : n.length < 128 := by omega
        have hly : y.length < 128 := by omega
        have hj0 : (0 : Int) ≤ (k : Int) := by omega
        have hj1 : (k : Int) < (ls.length : Int) := by omega
        go_wp2_with fail
        go_region_held3 (fun w' => w'.cell? ⟨b, off + k * 2, none⟩ = some (.string (bs n)) ∧ w'.cell? ⟨b, off + k * 2 + 1, none⟩ = some (.string (bs y)))
          (first | exact keepLab (by assumption) hb2 | exact keepLab (by assumption) hb1 | go_keep)
          (first
            | (go_at_call 66; refine (refText_any n _ hln).mono ?_; rintro e w2 ⟨rfl, hb1⟩)
            | (go_at_call 66; refine (refText_any y _ hly).mono ?_; rintro e w3 ⟨rfl, hb2⟩))
        have HX := Lib.hid (show Below w.heap.size w w3 from (by first | exact ((HB.out.drew.trans (hb1.mono HB.out.size)).trans (hb2.mono (Nat.le_trans HB.out.size hb1.size))) | exact ((HB.out.drew.trans (hb2.mono HB.out.size)).trans (hb1.mono (Nat.le_trans HB.out.size hb2.size)))))
        clear hb1 hb2
        go_wp2_with fail
        go_roundw
        case rel => exact ⟨k + 1, by omega, by go_num, by rw [HK.out]; simp, HX.out⟩
        case measure => simp [intOf]; omega
      · have hke : k = ls.length := by omega
        have HE := Lib.hid (show ls.take k = ls by rw [hke]; exact List.take_of_length_le (Nat.le_refl _))
        rw [HE.out]
        go_wp2_with fail
        go_ret2
        exact ⟨by simp [printK, errL], HB.out⟩

end Go.Proofs.Ytamdkmcdleilpaa
