/-
  The reader of runs: one number.
-/
import Derived.Test.YtnjcelilljniaaaTRunP
import Derived.Lib.MinMax
namespace Go.Proofs.Ytnjcelilljniaaa
open Go.RowKit

/-- A reader in block p, of s, at k. -/
def RdB (w : World) (p : Nat) (s : Bytes) (k : Nat) : Prop := w.heap[p]? = some (.cells #[.string (bs s), .int .i64 k, .bool true] 140 (0, 0))
theorem RdB.cells {w : World} {p k : Nat} {s : Bytes} (h : RdB w p s k) : w.cell? ⟨p, 0, none⟩ = some (.string (bs s)) ∧ w.cell? ⟨p, 1, none⟩ = some (.int .i64 k) ∧ w.cell? ⟨p, 2, none⟩ = some (.bool true) ∧ w.frozen? ⟨p, 1, none⟩ = false :=
  ⟨by rw [cell_of_row w _ _ _ _ _ h]; rfl, by rw [cell_of_row w _ _ _ _ _ h]; rfl, by rw [cell_of_row w _ _ _ _ _ h]; rfl, Lib.frozen_of_heap h 1⟩
theorem RdB.set {w : World} {p k j : Nat} {s : Bytes} (h : RdB w p s k) : RdB (w.setCell ⟨p, 1, none⟩ (.int .i64 j)) p s j := by
  unfold RdB at *
  rw [heap_set h]
  rfl
theorem RdB.kept {w w' : World} {p k : Nat} {s : Bytes} {row : Option Nat} (h : RdB w p s k) (hg : w.grownBy w' row) (hne : some p ≠ row) : RdB w' p s k := (hg.block p (lt_of_heap h) hne).trans h
theorem gbR_set {w : World} {p : Nat} (n : Nat) (y : Value) : w.grownBy ((w.drewN n).setCell ⟨p, 1, none⟩ y) (some p) :=
  ⟨rfl, rfl, rfl, by simp [World.setCell], fun k hk hne => Below.heap_setCell _ _ _ _ (fun e => hne (by rw [e]))⟩

set_option maxRecDepth 100000 in
set_option maxHeartbeats 1000000 in
theorem number_any (s rest : Bytes) (p k n : Nat) (below : Int) (w : World) (hr : RdB w p s k) (hd : s.drop k = uintL n ++ rest) (hn : (n : Int) < below) (hb : below ≤ 4611686018427387904) (hs : s.length ≤ 1000000000) (hk : k ≤ 1000000000) :
    Calls Try.prog 72 #[.pointer (some ⟨p, 0, none⟩), .int .i64 below] w fun e w' => e = .returned (.int .i64 n) ∧ RdB w' p s (k + (uintL n).length) ∧ w.grownBy w' (some p) := by
  obtain ⟨c0, c1, c2, f1⟩ := hr.cells
  have HR := Lib.hid hr
  have HG := Lib.hid (fun w' : World => getUint_any s rest k n w' hd (by omega) hs)
  have hw1 : IntKind.u64.wrap below = below := by rw [IntKind.wrap_u64]; omega
  have hw2 : IntKind.i64.wrap (n : Int) = n := IntWalk.i64_in _ (by omega)
  have hu := uintL_len10 (n := n) (by omega)
  have hq1 : decide (below ≤ (n : Int)) = false := by simp; omega
  clear hr hd hs
  generalize (uintL n).length = L at *
  go_enter Try.func72, Try.ntmps72
  go_wp2_with fail
  go_quiet ((go_at_call 54; exact Calls.quiet_of_same ((HG.out _).mono (fun _ _ h => ⟨h.1, h.2.symm⟩))))
  go_wp2_with fail
  go_ret
  exact ⟨by simp, HR.out.set, gbR_set _ _⟩

end Go.Proofs.Ytnjcelilljniaaa

/-
  slices.DeleteFunc of rows, where nothing is to go; whether a fence's range meets another.
-/
namespace Go.Proofs.Ytnjcelilljniaaa
open Go.RowKit

def cloR (B : Nat) : Value := .func (.func 62) #[] #[.pointer (some ⟨B, 0, none⟩)]
def BoxR (w : World) (B : Nat) : Prop := w.heap[B]? = some (.cells #[.int .i64 0, .int .i64 1099511627776] 93 (0, 0))
theorem BoxR.below {w w' : World} {B : Nat} (h : BoxR w B) (hb : Below w.heap.size w w') : BoxR w' B := (hb.block B (lt_of_heap h)).trans h

set_option maxRecDepth 100000 in
theorem out_no (B : Nat) (a b c : Int) (w : World) (hB : BoxR w B) (h0 : 0 ≤ a) (h1 : a < 1099511627776) :
    Calls Try.prog 62 #[.agg #[.int .i64 a, .int .i64 b, .int .i64 c], .pointer (some ⟨B, 0, none⟩)] w fun e w' => e = .returned (.bool false) ∧ Below w.heap.size w w' := by
  have c0 : w.cell? ⟨B, 0, none⟩ = some (.int .i64 0) := by rw [cell_of_row w _ _ _ _ _ hB]; rfl
  have c1 : w.cell? ⟨B, 1, none⟩ = some (.int .i64 1099511627776) := by rw [cell_of_row w _ _ _ _ _ hB]; rfl
  have hlt := lt_of_heap hB
  have q0 : decide (a < 0) = false := by simp; omega
  have q1 : decide (1099511627776 ≤ a) = false := by simp; omega
  clear hB
  go_enter Try.func62, Try.ntmps62
  go_wp2_with fail
  go_ret
  exact ⟨by simp, (Below.refl _ _).alloc (Nat.le_refl _) _⟩

def InT (l : List Rw) : Prop := ∀ x ∈ l, 0 ≤ x.1 ∧ x.1 < 1099511627776
set_option maxRecDepth 100000 in
set_option maxHeartbeats 1000000 in
theorem idx_none (v : Value) (n : Nat) (l : List Rw) (B : Nat) (w : World) (hv : RowsV w v l) (hn : l.length = n) (hB : BoxR w B) (hl : InT l) :
    Calls Try.prog 73 #[v, cloR B] w fun e w' => e = .returned (.int .i64 (-1)) ∧ Below w.heap.size w w' := by
  have HV := Lib.hid hv
  have HB := Lib.hid hB
  have HN := Lib.hid hn
  have HL := Lib.hid hl
  obtain ⟨a, cap, rfl, h1, h2, -⟩ := hv
  rw [hn] at HV h1
  rw [hn]
  clear hn hB hl
  unfold cloR
  go_enter Try.func73, Try.ntmps73
  go_wp2_with fail
  go_loopw [8] (fun i wr => ∃ k : Nat, i = .int .i64 k ∧ k ≤ n ∧ Below w.heap.size w wr) (fun i _ => n - (intOf i).toNat)
  case atStart => exact ⟨0, rfl, Nat.zero_le _, Below.refl _ _⟩
  case round =>
    obtain ⟨k, rfl, hk, hb⟩ := hrel
    have HBl := Lib.hid hb
    have HS := Lib.hid (HV.out.below hb)
    have HX := Lib.hid (HB.out.below hb)
    clear hb
    by_cases hlt : k < n
    · obtain ⟨g, off, rfl, hgl, c0, c1, c2⟩ := HS.out.at_ (i := k) (by rw [HN.out]; exact hlt)
      have hx := HL.out (l.getD k (0, 0, 0)) (by
        rw [List.getD_eq_getElem?_getD, List.getElem?_eq_getElem (by rw [HN.out]; exact hlt)]; exact List.getElem_mem _)
      generalize l.getD k (0, 0, 0) = x at *
      have HC := Lib.hid (fun w hw => out_no B x.1 x.2.1 x.2.2 w hw hx.1 hx.2)
      clear hx
      go_wp2_with fail
      refine (HC.out _ HX.out).mono ?_
      rintro e w2 ⟨rfl, hb2⟩
      have HB2 := Lib.hid (HBl.out.trans (hb2.mono HBl.out.size))
      clear hb2 c0 c1 c2
      go_wp2_with fail
      go_roundw
      case rel => exact ⟨k + 1, by go_num, by omega, HB2.out⟩
      case measure => simp [intOf]; omega
    · have hke : n = k := by omega
      subst hke
      go_wp2_with fail
      go_ret
      exact ⟨rfl, HBl.out⟩

set_option maxRecDepth 100000 in
theorem del_none (v : Value) (n : Nat) (l : List Rw) (B : Nat) (w : World) (hv : RowsV w v l) (hn : l.length = n) (hB : BoxR w B) (hl : InT l) :
    Calls Try.prog 61 #[v, cloR B] w fun e w' => e = .returned v ∧ Below w.heap.size w w' := by
  have HI := Lib.hid (idx_none v n l B w hv hn hB hl)
  obtain ⟨a, cap, rfl, -⟩ := hv
  clear hn hB hl
  unfold cloR at HI ⊢
  go_enter Try.func61, Try.ntmps61
  go_wp2_with fail
  refine HI.out.mono ?_
  rintro e w1 ⟨rfl, hb⟩
  have HB := Lib.hid hb
  clear hb
  go_wp2_with fail
  go_ret
  exact ⟨rfl, HB.out⟩

set_option maxRecDepth 100000 in
theorem has_any (f t m : Int) (b : Value) (w : World) (h0 : 0 ≤ f) (h1 : f < t) (h2 : t ≤ 1099511627776) :
    Calls Try.prog 59 #[.agg #[.int .i64 f, .int .i64 t, .int .i64 m, b], .agg #[.int .i64 0, .int .i64 1099511627776]] w fun e w' => e = .returned (.bool true) ∧ Below w.heap.size w w' := by
  have e1 : max f 0 = f := by omega
  have e2 : min t 1099511627776 = t := by omega
  have HE := Lib.hid h1
  go_enter Try.func59, Try.ntmps59
  go_wp2_with fail
  go_ret
  exact ⟨by simp, ((Below.refl _ _).alloc (Nat.le_refl _) _).alloc (by simp) _⟩

end Go.Proofs.Ytnjcelilljniaaa
