/-
  rice.Writer: put, all, Rice, Bytes, New.
-/
import Derived.Test.YtheenlomlmbjaaaGreatDoorTBuild
import Derived.Test.YtheenlomlmbjaaaGreatDoorTRRice
import Derived.BigRegion
import Derived.StillTailTactics
set_option linter.unusedSimpArgs false
set_option linter.unusedVariables false
namespace Go.Proofs.YtheenlomlmbjaaaGreatDoor
open Go.RowKit

def Wt (b : Nat) (v : Value) (B : List Bool) (w : World) : Prop :=
  ∃ (l : Bytes) (left many : Nat), Bw 439 [.int .u64 left, .int .i64 many] b v l w ∧ many < 8 ∧ left < 2 ^ many ∧ B = bitsOf l ++ toB left many ∧ (l = [] → v.ownBlock = none)

theorem wr_set {b : Nat} {v : Value} {w : World} {c : Array Value} {T : TypeId} {fr : Nat × Nat} {i : Nat} {x : Value} (hb : w.heap[b]? = some (.cells c T fr)) :
    (w.setCell ⟨b, i, none⟩ x).heap[b]? = some (.cells (c.modify i fun _ => x) T fr) ∧ Wr b v v w (w.setCell ⟨b, i, none⟩ x) := by
  refine ⟨?_, rfl, rfl, rfl, by simp [World.setCell], fun k _ hk _ => Below.heap_setCell _ _ _ _ hk, .inl rfl⟩
  simp [World.setCell, Array.getElem?_modify, hb]
  try rfl
theorem Wr.own {b n : Nat} {v : Value} {l : Bytes} {w w' : World} (h : Wr b v v w w') {T : TypeId} {c : Array Value} {fr : Nat × Nat} (hT : TOk T n) (hb : w.heap[b]? = some (.cells c T fr)) (hown : w.ownsRow b 5 1 v l.length (cellsB l))
    (hrow : ∀ g, v.ownBlock = some g → w'.heap[g]? = w.heap[g]?) : w'.ownsRow b 5 1 v l.length (cellsB l) := by
  refine ⟨hown.1, ?_⟩
  rcases hown.2 with h2 | ⟨g, cap, cur, hv, hg, hh, r⟩
  · exact .inl h2
  · exact .inr ⟨g, cap, cur, hv, hg, by rw [hrow g (by rw [hv]; rfl)]; exact hh, r⟩
theorem Bw.set {b i : Nat} {v x : Value} {l : Bytes} {w : World} {xs ys : List Value} (h : Bw 439 xs b v l w) (hxy : ∀ p : Value, (p :: v :: xs).toArray.modify i (fun _ => x) = (p :: v :: ys).toArray) :
    Bw 439 ys b v l (w.setCell ⟨b, i, none⟩ x) ∧ Wr b v v w (w.setCell ⟨b, i, none⟩ x) := by
  have hne := h.neSelf tokWriter
  obtain ⟨p, hp, hb, hown⟩ := h
  obtain ⟨h1, h2⟩ := wr_set (v := v) (i := i) (x := x) hb
  refine ⟨⟨p, hp, by rw [h1, hxy], h2.own tokWriter hb hown fun g hg => ?_⟩, h2⟩
  exact Below.heap_setCell _ _ _ _ (by intro e; simp at e; subst e; exact hne hg)
theorem Bw.drew {T : TypeId} {xs : List Value} {b : Nat} {v : Value} {l : Bytes} {w : World} (h : Bw T xs b v l w) : Bw T xs b v l w.drew := h
theorem Wr.drew {b : Nat} {v v' : Value} {w w' : World} (h : Wr b v v' w w') : Wr b v v' w w'.drew := ⟨h.os, h.tape, h.output, h.size, h.block, h.at_⟩
theorem Wr.drewN {b : Nat} {v v' : Value} {w w' : World} (h : Wr b v v' w w') (q : Nat) : Wr b v v' w (w'.drewN q) := ⟨h.os, h.tape, h.output, h.size, h.block, h.at_⟩
theorem Wr.refl {b : Nat} {v : Value} (w : World) : Wr b v v w w := ⟨rfl, rfl, rfl, Nat.le_refl _, fun _ _ _ _ => rfl, .inl rfl⟩
theorem Wr.trans' {b : Nat} {v v' v'' : Value} {w w' w'' : World} (h : Wr b v v' w w') (h2 : Wr b v' v'' w' w'') : Wr b v v'' w w'' :=
  ⟨h2.os.trans h.os, h2.tape.trans h.tape, h2.output.trans h.output, Nat.le_trans h.size h2.size, fun k hk h1 h3 => (h2.block k (by have := h.size; omega) h1 (by
      rcases h.at_ with e | ⟨g, e, hg⟩
      · rw [e]; exact h3
      · rw [e]; intro e'; simp at e'; omega)).trans (h.block k hk h1 h3), by
    rcases h2.at_ with e | ⟨g, e, hg⟩
    · rw [e]; exact h.at_
    · exact .inr ⟨g, e, Nat.le_trans h.size hg⟩⟩
theorem put_or {left n m many : Nat} (hl : left < 2 ^ many) (hn : n < 2 ^ m) (hs : many + m ≤ 64) :
    bits .or .u64 (IntKind.u64.wrap ((left : Int) * 2 ^ m)) (n : Int) = ((left * 2 ^ m + n : Nat) : Int) ∧ left * 2 ^ m + n < 2 ^ (many + m) := by
  have h1 : left * 2 ^ m + n < 2 ^ (many + m) := by
    rw [Nat.pow_add]
    have h2 : (left + 1) * 2 ^ m ≤ 2 ^ many * 2 ^ m := Nat.mul_le_mul_right _ hl
    rw [Nat.succ_mul] at h2
    omega
  have h2 := pow_le64 hs
  refine ⟨?_, h1⟩
  rw [show ((left : Int) * 2 ^ m) = ((left * 2 ^ m : Nat) : Int) by simp, IntKind.wrap_u64, show (((left * 2 ^ m : Nat) : Int) % 18446744073709551616) = ((left * 2 ^ m : Nat) : Int) by omega,
    u64_or_nat _ _ (by omega) (by omega), Nat.or_comm, or_more _ _ _ hn, Nat.add_comm]

set_option maxHeartbeats 2000000 in
set_option maxRecDepth 100000 in
theorem put_any (b : Nat) (v : Value) (B : List Bool) (n m : Nat) (w : World) (h : Wt b v B w) (hm : m ≤ 8) (hn : n < 2 ^ m) (hB : B.length ≤ 1000000000000) :
    Calls Tryz.prog 358 #[.pointer (some ⟨b, 0, none⟩), .int .u64 n, .int .i64 m] w fun e w' => e = .returned (.tuple #[]) ∧ ∃ v', Wt b v' (B ++ toB n m) w' ∧ Wr b v v' w w' := by
  obtain ⟨l, left, many, hbw, hmany, hleft, rfl, hnone⟩ := h
  have hbl : 8 * l.length ≤ 1000000000000 := by rw [List.length_append, bitsOf_len, toB_len] at hB; omega
  obtain ⟨hor, hL⟩ := put_or hleft hn (show many + m ≤ 64 by omega)
  have hTB := Lib.hid (toB_join left n many m hn)
  obtain ⟨L, hLe⟩ : ∃ L, L = left * 2 ^ m + n := ⟨_, rfl⟩
  rw [← hLe] at hor hL hTB
  clear hLe
  have hOR := Lib.hid hor
  have f2 : w.frozen? ⟨b, 2, none⟩ = false := by obtain ⟨p, hp, hb, hown⟩ := hbw; exact Lib.frozen_of_heap hb 2
  have f3 : w.frozen? ⟨b, 3, none⟩ = false := by obtain ⟨p, hp, hb, hown⟩ := hbw; exact Lib.frozen_of_heap hb 3
  have c2 : w.cell? ⟨b, 2, none⟩ = some (.int .u64 left) := by obtain ⟨p, hp, hb, hown⟩ := hbw; rw [Lib.cell_of_heap hb]; rfl
  have c3 : w.cell? ⟨b, 3, none⟩ = some (.int .i64 many) := by obtain ⟨p, hp, hb, hown⟩ := hbw; rw [Lib.cell_of_heap hb]; rfl
  have HW1 : Hid (Bw 439 [.int .u64 L, .int .i64 (many + m : Nat)] b v l ((w.setCell ⟨b, 2, none⟩ (.int .u64 L)).setCell ⟨b, 3, none⟩ (.int .i64 (many + m : Nat))).drew ∧
      Wr b v v w ((w.setCell ⟨b, 2, none⟩ (.int .u64 L)).setCell ⟨b, 3, none⟩ (.int .i64 (many + m : Nat))).drew) := by
    have h1 := hbw.set (i := 2) (x := .int .u64 L) (ys := [.int .u64 L, .int .i64 many]) (fun _ => rfl)
    have h2 := h1.1.set (i := 3) (x := .int .i64 (many + m : Nat)) (ys := [.int .u64 L, .int .i64 (many + m : Nat)]) (fun _ => rfl)
    exact Lib.hid ⟨h2.1.drew, (h1.2.trans h2.2).drew⟩
  clear hbw hor
  go_enter Tryz.func358, Tryz.ntmps358
  go_wp2_with fail
  go_region
  rw [hOR.out, show ((many : Int) + m) = ((many + m : Nat) : Int) by simp]
  generalize ((w.setCell ⟨b, 2, none⟩ (.int .u64 L)).setCell ⟨b, 3, none⟩ (.int .i64 (many + m : Nat))).drew = w1 at *
  clear c2 c3 f2 f3
  obtain ⟨hb1, hr1⟩ := HW1.out
  have c2 : w1.cell? ⟨b, 2, none⟩ = some (.int .u64 L) := by obtain ⟨p, hp, hb, hown⟩ := hb1; rw [Lib.cell_of_heap hb]; rfl
  have c3 : w1.cell? ⟨b, 3, none⟩ = some (.int .i64 (many + m : Nat)) := by obtain ⟨p, hp, hb, hown⟩ := hb1; rw [Lib.cell_of_heap hb]; rfl
  have f3 : w1.frozen? ⟨b, 3, none⟩ = false := by obtain ⟨p, hp, hb, hown⟩ := hb1; exact Lib.frozen_of_heap hb 3
  have hb1 := Lib.hid hb1
  have hr1 := Lib.hid hr1
  by_cases h8 : many + m < 8
  · have HE := Lib.hid (show Wt b v (bitsOf l ++ toB left many ++ toB n m) w1 from ⟨l, L, many + m, hb1.out, h8, hL, by rw [hTB.out, List.append_assoc], hnone⟩)
    obtain ⟨M, hM⟩ : ∃ M, M = many + m := ⟨_, rfl⟩
    rw [← hM] at *
    clear hM
    go_wp2_with fail
    go_end0
    exact ⟨rfl, v, HE.out, hr1.out⟩
  · obtain ⟨r, hr⟩ : ∃ r, many + m = 8 + r := ⟨many + m - 8, by omega⟩
    rw [hr] at hTB hL hb1 c3 ⊢
    have hr8 : r < 8 := by omega
    have hpr := Nat.two_pow_pos r
    have hLr : L / 2 ^ r < 256 := by
      rw [Nat.div_lt_iff_lt_mul hpr]
      rw [Nat.pow_add] at hL
      exact hL
    obtain ⟨c, hc⟩ : ∃ c, c = UInt8.ofNat (L / 2 ^ r) := ⟨_, rfl⟩
    have hcn : c.toNat = L / 2 ^ r := by rw [hc, UInt8.toNat_ofNat_of_lt' (by show _ < 256; omega)]
    have hL64 : L < 18446744073709551616 := Nat.lt_of_lt_of_le hL (pow_le64 (by omega))
    have hbyte : (L : Int) / 2 ^ r % 256 = (c.toNat : Int) := by
      rw [hcn, show ((L : Int) / 2 ^ r) = ((L / 2 ^ r : Nat) : Int) by simp]; omega
    have HW2 : Hid (Bw 439 [.int .u64 L, .int .i64 r] b v l (w1.setCell ⟨b, 3, none⟩ (.int .i64 r)) ∧ Wr b v v w1 (w1.setCell ⟨b, 3, none⟩ (.int .i64 r))) := by
      have h1 := hb1.out.set (i := 3) (x := .int .i64 r) (ys := [.int .u64 L, .int .i64 r]) (fun _ => rfl)
      exact Lib.hid h1
    have HMASK := Lib.hid (mask_val L r hL64 (by omega))
    have HBITS := Lib.hid (show bitsOf l ++ toB left many ++ toB n m = bitsOf (l ++ [c]) ++ toB (L % 2 ^ r) r by
      rw [List.append_assoc, ← hTB.out, toB_split, bitsOf_app, bitsOf_one, hcn, toB_mod _ _ _ (Nat.le_refl _), List.append_assoc])
    have HBY := Lib.hid hbyte
    clear hc hcn hbyte hLr hpr h8 hr
    go_wp2_with fail
    rw [show ((8 : Int) + r) - 8 = (r : Int) by omega]
    generalize w1.setCell ⟨b, 3, none⟩ (.int .i64 r) = w2 at *
    clear c2 c3 f3
    obtain ⟨hb2, hr2⟩ := HW2.out
    have c2 : w2.cell? ⟨b, 2, none⟩ = some (.int .u64 L) := by obtain ⟨p, hp, hb, hown⟩ := hb2; rw [Lib.cell_of_heap hb]; rfl
    have c3 : w2.cell? ⟨b, 3, none⟩ = some (.int .i64 r) := by obtain ⟨p, hp, hb, hown⟩ := hb2; rw [Lib.cell_of_heap hb]; rfl
    have HC := Lib.hid (writeByte_any _ c HBY.out (w := w2.drew) hb2.drew tokWriter (by omega))
    have hb2 := Lib.hid hb2
    have hr2 := Lib.hid hr2
    go_still_tail 14, (by kernel_rfl)
    change wpList _ _ _ _ _ w2.drew
    go_wp2_with fail
    rw [show min r 64 = r by omega]
    refine HC.out.mono ?_
    rintro e w3 ⟨rfl, v3, h3, r3⟩
    clear c2 c3
    have c2 : w3.cell? ⟨b, 2, none⟩ = some (.int .u64 L) := by obtain ⟨p, hp, hb, hown⟩ := h3; rw [Lib.cell_of_heap hb]; rfl
    have c3 : w3.cell? ⟨b, 3, none⟩ = some (.int .i64 r) := by obtain ⟨p, hp, hb, hown⟩ := h3; rw [Lib.cell_of_heap hb]; rfl
    have f2 : w3.frozen? ⟨b, 2, none⟩ = false := by obtain ⟨p, hp, hb, hown⟩ := h3; exact Lib.frozen_of_heap hb 2
    have H3 := Lib.hid h3
    have R3 := Lib.hid r3
    clear h3 r3
    go_wp2_with fail
    go_region
    rw [HMASK.out]
    have h4 := H3.out.set (i := 2) (x := .int .u64 (L % 2 ^ r : Nat)) (ys := [.int .u64 (L % 2 ^ r : Nat), .int .i64 r]) (fun _ => rfl)
    go_end0
    exact ⟨rfl, v3, ⟨l ++ [c], L % 2 ^ r, r, h4.1.drew, hr8, Nat.mod_lt _ (Nat.two_pow_pos _), HBITS.out, by intro e; simp at e⟩, (((hr1.out.trans' hr2.out).drew.trans' R3.out).trans' h4.2).drew⟩

set_option maxHeartbeats 1000000 in
set_option maxRecDepth 100000 in
theorem all_any (b : Nat) (v : Value) (B : List Bool) (n m : Nat) (w : World) (h : Wt b v B w) (hm : m ≤ 64) (hn : n < 18446744073709551616) (hB : B.length ≤ 100000000000) :
    Calls Tryz.prog 335 #[.pointer (some ⟨b, 0, none⟩), .int .u64 n, .int .i64 m] w fun e w' => e = .returned (.tuple #[]) ∧ ∃ v', Wt b v' (B ++ toB n m) w' ∧ Wr b v v' w w' := by
  have H := Lib.hid h
  clear h
  go_enter Tryz.func335, Tryz.ntmps335
  go_wp2_with fail
  go_loopw [2] (fun x wr => ∃ (k : Nat) (v' : Value), x = .int .i64 k ∧ k ≤ m ∧ Wt b v' (B ++ toB (n / 2 ^ k) (m - k)) wr ∧ Wr b v v' w wr)
    (fun x wr => (intOf x).toNat)
  case atStart => exact ⟨m, v, rfl, Nat.le_refl _, by rw [Nat.sub_self]; simpa [toB] using H.out, Wr.refl _⟩
  case round =>
    obtain ⟨k, v', rfl, hk, hwt, hwr⟩ := hrel
    have HT := Lib.hid hwt
    have HR := Lib.hid hwr
    clear hwt hwr
    have hBk : (B ++ toB (n / 2 ^ k) (m - k)).length ≤ 1000000000000 := by rw [List.length_append, toB_len]; omega
    by_cases h8 : 8 < k
    · have HM := Lib.hid (show bits .and .u64 ((n : Int) / 2 ^ (k - 8)) 255 = ((n / 2 ^ (k - 8) % 256 : Nat) : Int) by
        have h : n / 2 ^ (k - 8) ≤ n := Nat.div_le_self _ _
        rw [show ((n : Int) / 2 ^ (k - 8)) = ((n / 2 ^ (k - 8) : Nat) : Int) by simp, show (255 : Int) = ((255 : Nat) : Int) from rfl, u64_and_nat _ _ (by omega) (by omega), nat_mask8])
      have HP := Lib.hid (put_any b v' (B ++ toB (n / 2 ^ k) (m - k)) (n / 2 ^ (k - 8) % 256) 8 wr HT.out (by omega) (by omega) hBk)
      have HBT := Lib.hid (show B ++ toB (n / 2 ^ k) (m - k) ++ toB (n / 2 ^ (k - 8) % 256) 8 = B ++ toB (n / 2 ^ (k - 8)) (m - (k - 8)) by
        rw [List.append_assoc, show m - (k - 8) = m - k + 8 by omega, toB_split (n / 2 ^ (k - 8)) (m - k) 8, Nat.div_div_eq_div_mul, ← Nat.pow_add, show k - 8 + 8 = k by omega]
        rw [show (256 : Nat) = 2 ^ 8 from rfl, toB_mod _ 8 8 (Nat.le_refl _)])
      go_wp2_with fail
      rw [HM.out]
      refine HP.out.mono ?_
      rintro e w2 ⟨rfl, v2, h2, r2⟩
      rw [HBT.out] at h2
      have H2 := Lib.hid h2
      have R2 := Lib.hid r2
      clear h2 r2
      go_wp2_with fail
      go_roundw
      case rel => exact ⟨k - 8, v2, by go_num, by omega, H2.out, HR.out.trans' R2.out⟩
      case measure => simp [intOf]; omega
    · have HM := Lib.hid (mask_val n k hn (by omega))
      have HP := Lib.hid (put_any b v' (B ++ toB (n / 2 ^ k) (m - k)) (n % 2 ^ k) k wr HT.out (by omega) (Nat.mod_lt _ (Nat.two_pow_pos _)) hBk)
      have HBT := Lib.hid (show B ++ toB (n / 2 ^ k) (m - k) ++ toB (n % 2 ^ k) k = B ++ toB n m by
        rw [List.append_assoc, toB_mod _ k k (Nat.le_refl _), ← toB_split, show m - k + k = m by omega])
      go_wp2_with fail
      rw [HM.out]
      refine HP.out.mono ?_
      rintro e w2 ⟨rfl, v2, h2, r2⟩
      rw [HBT.out] at h2
      have H2 := Lib.hid h2
      have R2 := Lib.hid r2
      clear h2 r2
      go_wp2_with fail
      go_end0
      exact ⟨rfl, v2, H2.out, HR.out.trans' R2.out⟩

theorem head_val (q : Nat) (hq : q ≤ 24) : IntKind.u64.wrap (IntKind.u64.wrap (IntKind.u64.wrap (2 ^ q) - 1) * 2) = (((2 ^ q - 1) * 2 : Nat) : Int) := by
  have h1 := Nat.pow_le_pow_right (show 0 < 2 by decide) hq
  have h2 := Nat.two_pow_pos q
  rw [show ((2 : Int) ^ q) = ((2 ^ q : Nat) : Int) by simp]
  generalize 2 ^ q = x at *
  simp only [IntKind.wrap_u64]
  omega

set_option maxHeartbeats 1000000 in
set_option maxRecDepth 100000 in
theorem riceW_any (b : Nat) (v : Value) (B : List Bool) (n k : Nat) (w : World) (h : Wt b v B w) (hk : k ≤ 40) (hn : n < 18446744073709551616) (hB : B.length ≤ 10000000000) :
    Calls Tryz.prog 304 #[.pointer (some ⟨b, 0, none⟩), .int .u64 n, .int .i64 k] w fun e w' => e = .returned (.int .i64 0) ∧ ∃ v', Wt b v' (B ++ riceB n k) w' ∧ Wr b v v' w w' := by
  have hq : ((n : Int) / 2 ^ k) = ((n / 2 ^ k : Nat) : Int) := by simp
  by_cases h24 : n / 2 ^ k < 24
  · have d1 : ¬ (24 : Int) ≤ (n : Int) / 2 ^ k := by rw [hq]; omega
    have HBT := Lib.hid (show B ++ toB ((2 ^ (n / 2 ^ k) - 1) * 2) (n / 2 ^ k + 1) ++ toB (n % 2 ^ k) k = B ++ riceB n k by
      rw [toB_mod _ k k (Nat.le_refl _), toB_head]; unfold riceB; rw [if_neg (by omega)]; simp)
    generalize n / 2 ^ k = q at *
    have H1 := Lib.hid (all_any b v B ((2 ^ q - 1) * 2) (q + 1) w h (by omega) (by have := Nat.pow_le_pow_right (show 0 < 2 by decide) (show q ≤ 24 by omega); omega) (by omega))
    have HH := Lib.hid (head_val q (by omega))
    have HQ := Lib.hid hq
    have HM := Lib.hid (mask_val n k hn (by omega))
    clear h
    go_enter Tryz.func304, Tryz.ntmps304
    go_wp2_with fail
    rw [HH.out]
    refine H1.out.mono ?_
    rintro e w2 ⟨rfl, v2, h2, r2⟩
    have H2 := Lib.hid (all_any b v2 _ (n % 2 ^ k) k w2 h2 (by omega) (Nat.lt_of_le_of_lt (Nat.mod_le _ _) hn) (by rw [List.length_append, toB_len]; omega))
    have R2 := Lib.hid r2
    clear h2 r2
    go_wp2_with fail
    rw [HM.out]
    refine H2.out.mono ?_
    rintro e w3 ⟨rfl, v3, h3, r3⟩
    rw [HBT.out] at h3
    have H3 := Lib.hid h3
    have R3 := Lib.hid r3
    clear h3 r3
    go_wp2_with fail
    go_ret
    exact ⟨rfl, v3, H3.out, R2.out.trans' R3.out⟩
  · have d1 : (24 : Int) ≤ (n : Int) / 2 ^ k := by rw [hq]; omega
    have HBT := Lib.hid (show B ++ toB 16777215 24 ++ toB n 64 = B ++ riceB n k by
      have e := toB_ones 24
      rw [show (2 ^ 24 - 1 : Nat) = 16777215 from rfl] at e
      rw [e]; unfold riceB; rw [if_pos (by omega)]; simp)
    have H1 := Lib.hid (all_any b v B 16777215 24 w h (by omega) (by omega) (by omega))
    clear h hq
    go_enter Tryz.func304, Tryz.ntmps304
    go_wp2_with fail
    refine H1.out.mono ?_
    rintro e w2 ⟨rfl, v2, h2, r2⟩
    have H2 := Lib.hid (all_any b v2 _ n 64 w2 h2 (by omega) hn (by rw [List.length_append, toB_len]; omega))
    have R2 := Lib.hid r2
    clear h2 r2
    go_wp2_with fail
    refine H2.out.mono ?_
    rintro e w3 ⟨rfl, v3, h3, r3⟩
    rw [HBT.out] at h3
    have H3 := Lib.hid h3
    have R3 := Lib.hid r3
    clear h3 r3
    go_wp2_with fail
    go_ret
    exact ⟨rfl, v3, H3.out, R2.out.trans' R3.out⟩

set_option maxHeartbeats 400000 in
set_option maxRecDepth 100000 in
theorem newW_any (w : World) : Calls Tryz.prog 303 #[] w fun e w' => e = .returned (.pointer (some ⟨w.heap.size, 0, none⟩)) ∧
    w' = w.alloc (.cells #[.pointer none, .slice none 0 0, .int .u64 0, .int .i64 0] 439) := by
  go_enter Tryz.func303, Tryz.ntmps303
  go_wp2_with fail
  go_ret
  exact ⟨rfl, rfl⟩
theorem Wt.fresh (w : World) : Wt w.heap.size (.slice none 0 0) [] (w.alloc (.cells #[.pointer none, .slice none 0 0, .int .u64 0, .int .i64 0] 439)) :=
  ⟨[], 0, 0, ⟨.pointer none, .inl rfl, heap_alloc_new w _, World.ownsRow_nil _ _ _ _⟩, by omega, by simp, rfl, fun _ => rfl⟩

theorem bitsOf_inj : ∀ {a b : Bytes}, bitsOf a = bitsOf b → a = b
  | [], [], _ => rfl
  | [], c :: l, h => by have e := congrArg List.length h; rw [bitsOf_len, bitsOf_len] at e; simp at e
  | c :: l, [], h => by have e := congrArg List.length h; rw [bitsOf_len, bitsOf_len] at e; simp at e
  | c :: l, d :: m, h => by
    change toB c.toNat 8 ++ bitsOf l = toB d.toNat 8 ++ bitsOf m at h
    obtain ⟨h1, h2⟩ := List.append_inj h (by rw [toB_len, toB_len])
    have e := congrArg ofB h1
    rw [ofB_toB, ofB_toB, Nat.mod_eq_of_lt (UInt8.toNat_lt _), Nat.mod_eq_of_lt (UInt8.toNat_lt _)] at e
    rw [UInt8.toNat_inj.1 e, bitsOf_inj h2]
def Packed (P : Bytes) (B : List Bool) : Prop := ∃ pad, pad < 8 ∧ bitsOf P = B ++ List.replicate pad false
theorem Packed.uniq {P Q : Bytes} {B : List Bool} (h : Packed P B) (h2 : Packed Q B) : P = Q := by
  obtain ⟨p, hp, e1⟩ := h
  obtain ⟨q, hq, e2⟩ := h2
  have l1 := congrArg List.length e1
  have l2 := congrArg List.length e2
  rw [bitsOf_len, List.length_append, List.length_replicate] at l1 l2
  have : p = q := by omega
  subst this
  exact bitsOf_inj (e1.trans e2.symm)
noncomputable def packB (B : List Bool) : Bytes := Classical.epsilon (fun P => Packed P B)
theorem Packed.is {P : Bytes} {B : List Bool} (h : Packed P B) : P = packB B := h.uniq (Classical.epsilon_spec (p := fun P => Packed P B) ⟨P, h⟩)
theorem toB_zeros : ∀ m, toB 0 m = List.replicate m false
  | 0 => rfl
  | m + 1 => by rw [toB, toB_zeros m, List.replicate_succ]; simp
theorem packed_last {l : Bytes} {left many : Nat} (h : many < 8) (h0 : 0 < many) (hl : left < 2 ^ many) :
    Packed (l ++ [UInt8.ofNat (left * 2 ^ (8 - many))]) (bitsOf l ++ toB left many) ∧ left * 2 ^ (8 - many) < 256 := by
  have hlt : left * 2 ^ (8 - many) < 256 := by
    have h1 := Nat.mul_lt_mul_of_pos_right hl (Nat.two_pow_pos (8 - many))
    rw [← Nat.pow_add, show many + (8 - many) = 8 by omega] at h1
    exact h1
  refine ⟨⟨8 - many, by omega, ?_⟩, hlt⟩
  rw [bitsOf_app, bitsOf_one, UInt8.toNat_ofNat_of_lt' (by show _ < 256; omega), List.append_assoc, ← toB_zeros]
  have e := toB_join left 0 many (8 - many) (Nat.two_pow_pos _)
  rw [Nat.add_zero, show many + (8 - many) = 8 by omega] at e
  rw [e]

theorem builderString_both {T : TypeId} {xs : List Value} {b n : Nat} {v : Value} {l : Bytes} {w : World} (h : Bw T xs b v l w) (hT : TOk T n) (hnone : l = [] → v.ownBlock = none) :
    Calls Tryz.prog 41 #[.pointer (some ⟨b, 0, none⟩)] w fun e w' => e = .returned (.string (bs l)) ∧ Wr b v v w w' ∧ w'.heap[b]? = w.heap[b]? := by
  by_cases h0 : l = []
  · subst h0
    refine (builderString_none h hT (hnone rfl)).mono ?_
    rintro e w' ⟨rfl, q, rfl⟩
    exact ⟨rfl, (Wr.refl w).drewN q, rfl⟩
  · exact builderString_any h hT h0

theorem c_of {b : Nat} {v : Value} {l : Bytes} {w : World} {left many : Nat} (hbw : Bw 439 [.int .u64 left, .int .i64 many] b v l w) :
    w.cell? ⟨b, 2, none⟩ = some (.int .u64 left) ∧ w.cell? ⟨b, 3, none⟩ = some (.int .i64 many) := by
  obtain ⟨p, hp, hb, hown⟩ := hbw
  exact ⟨by rw [Lib.cell_of_heap hb]; rfl, by rw [Lib.cell_of_heap hb]; rfl⟩
theorem cv_after {w : World} {K : Nat} {x : Int} (h : w.heap[K]? = some (.cells #[.int .u8 x] 5 (0, 0))) :
    (convert 22 9 (.slice (some ⟨K, 0, none⟩) 1 1)).run Tryz.prog w = .ok (.string (bs [UInt8.ofNat x.toNat])) w := by
  rw [run_convert_bytes_string w _ _ 5 _ _ _ Tryz.underlying22 Tryz.underlying5 Tryz.underlying9, run_bytesToString w ⟨K, 0, none⟩ 1 1 [x] ?_]
  · rfl
  · exact run_loadCells_list w ⟨K, 0, none⟩ [.int .u8 x] (fun j u hj => by
      cases j with
      | zero =>
        simp at hj; subst hj
        rw [show (⟨K, 0, none⟩ : Addr).add 0 = ⟨K, 0, none⟩ from rfl, Lib.cell_of_heap h]; rfl
      | succ j => simp at hj)
theorem kept_row {b : Nat} {v : Value} {l : Bytes} {w w2 : World} {T : TypeId} {xs : List Value} {o : Obj} (hbw : Bw T xs b v l w) {W : World} (h2 : Wr b v v W w2) (hW : W.heap[w.heap.size]? = some o) : w2.heap[w.heap.size]? = some o := by
  have hb := hbw.lt
  rw [h2.block w.heap.size (lt_of_heap hW) (by omega) (fun e => by have := (hbw.rowLt e).2; omega)]
  exact hW
theorem cell_same {w w' : World} {b : Nat} (h : w'.heap[b]? = w.heap[b]?) (i : Nat) : w'.cell? ⟨b, i, none⟩ = w.cell? ⟨b, i, none⟩ := World.cell?_of_block (a := ⟨b, i, none⟩) h

end Go.Proofs.YtheenlomlmbjaaaGreatDoor
