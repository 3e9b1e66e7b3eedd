/-
  delta.numbers of any samples that rise.
-/
import Derived.Test.YtheenlomlmbjaaaGreatDoorTEncR
set_option linter.unusedSimpArgs false
set_option linter.unusedVariables false
namespace Go.Proofs.YtheenlomlmbjaaaGreatDoor
open Go.RowKit Go.Shelf

attribute [local go_sem] Oper.semAt_some

structure LOk (l : List Smp) : Prop where
  len : l.length ≤ 1000
  t0 : ∀ i, i < l.length → 0 ≤ (l.getD i (0, 0)).1 ∧ (l.getD i (0, 0)).1 < 100000
  v0 : ∀ i, i < l.length → 0 ≤ (l.getD i (0, 0)).2 ∧ (l.getD i (0, 0)).2 < 1000000
  rise : ∀ i, i + 1 < l.length → (l.getD i (0, 0)).1 < (l.getD (i + 1) (0, 0)).1
def dT (l : List Smp) (k : Nat) : Int := (l.getD (k + 1) (0, 0)).1 - (l.getD k (0, 0)).1
def dV (l : List Smp) (k : Nat) : Int := (l.getD (k + 1) (0, 0)).2 - (l.getD k (0, 0)).2
def ahd (l : List Smp) (k : Nat) : Int := if k = 0 then 0 else dT l (k - 1)
def prG (l : List Smp) (k : Nat) : Nat × Nat := (foldN (dT l k - ahd l k), foldN (dV l k))
def prsG (l : List Smp) (m : Nat) : List (Nat × Nat) := (List.range m).map (prG l)
theorem prsG_len (l : List Smp) (m : Nat) : (prsG l m).length = m := by simp [prsG]
theorem prsG_succ (l : List Smp) (m : Nat) : prsG l (m + 1) = prsG l m ++ [prG l m] := by simp [prsG, List.range_succ]
theorem prsG_pre {l : List Smp} {m k : Nat} (h : k ≤ m) : prsG l k <+: prsG l m := by
  induction m with
  | zero => obtain rfl : k = 0 := by omega
            exact List.prefix_refl _
  | succ m ih =>
    rcases Nat.lt_or_ge m k with h' | h'
    · obtain rfl : k = m + 1 := by omega
      exact List.prefix_refl _
    · rw [prsG_succ]
      exact (ih h').trans (List.prefix_append _ _)
theorem dT_ok {l : List Smp} (h : LOk l) {k : Nat} (hk : k + 1 < l.length) : 0 < dT l k ∧ dT l k < 100000 := by
  have h1 := h.rise k hk; have h2 := h.t0 k (by omega); have h3 := h.t0 (k + 1) hk
  unfold dT; omega
theorem dV_ok {l : List Smp} (h : LOk l) {k : Nat} (hk : k + 1 < l.length) : -1000000 < dV l k ∧ dV l k < 1000000 := by
  have h2 := h.v0 k (by omega); have h3 := h.v0 (k + 1) hk
  unfold dV; omega
theorem ahd_ok {l : List Smp} (h : LOk l) {k : Nat} (hk : k < l.length) : 0 ≤ ahd l k ∧ ahd l k < 100000 := by
  unfold ahd
  split
  · omega
  · have := dT_ok h (k := k - 1) (by omega); omega
theorem prG_lt {l : List Smp} (h : LOk l) {k : Nat} (hk : k + 1 < l.length) : (prG l k).1 < 18446744073709551616 ∧ (prG l k).2 < 18446744073709551616 := by
  have h1 := dT_ok h hk; have h2 := dV_ok h hk; have h3 := ahd_ok h (k := k) (by omega)
  exact ⟨foldN_lt (by omega) (by omega), foldN_lt (by omega) (by omega)⟩

structure NSeenG (n₀ : Nat) (X : Nat → Prop) (w : World) (B1 b off cap n : Nat) (l : List Smp) : Prop where
  b1 : B1 < n₀ ∧ ¬ X B1 ∧ w.cell? ⟨B1, 0, none⟩ = some (.slice (some ⟨b, off, none⟩) n cap)
  sm : Samples w (.slice (some ⟨b, off, none⟩) n cap) l
  at_ : b < n₀ ∧ ¬ X b
theorem NSeenG.but {n₀ : Nat} {X : Nat → Prop} {A B : World} {B1 b off cap n : Nat} {l : List Smp} (h : NSeenG n₀ X A B1 b off cap n l) (hk : ButX n₀ X A B) : NSeenG n₀ X B B1 b off cap n l :=
  ⟨⟨h.b1.1, h.b1.2.1, hk.cell h.b1.1 h.b1.2.1 h.b1.2.2⟩, h.sm.but hk (fun _ b' off' e => by simp at e; obtain ⟨rfl, _⟩ := e; exact h.at_), h.at_⟩

set_option maxRecDepth 100000 in
set_option maxHeartbeats 4000000 in
theorem numbersG_in (fu y n₀ B1 b off cap n : Nat) (l : List Smp) (X : Nat → Prop) (hfu : 1 ≤ fu) (hn : 2 ≤ n) (hln : l.length = n) (hL : LOk l)
    (J Jx : List (Nat × Nat) → World → Prop) (w0 : World)
    (hJ : AbidesFrom w0.heap.size J)
    (hY : ∀ pre x W1, J pre W1 → pre.length < n - 1 → YieldAt Fence.wide (fu - 1) Tryz.prog y #[.int .u64 x.1, .int .u64 x.2] W1 fun e W' =>
      (e = .returned (.bool true) ∧ J (pre ++ [x]) W' ∧ ButX n₀ X W1 W') ∨ (e = .returned (.bool false) ∧ Jx (pre ++ [x]) W'))
    (W : World) (hS : NSeenG n₀ X W B1 b off cap n l) (h0 : J [] W) :
    CallsIn Fence.wide fu Tryz.prog 332 #[.func (.yield y) #[] #[], .pointer (some ⟨B1, 0, none⟩)] W fun e W' =>
      (∃ v, e = .returned v) ∧ ((∃ ys, ys = prsG l (n - 1) ∧ J ys W') ∨ (∃ pre, pre <+: prsG l (n - 1) ∧ Jx pre W')) := by
  have HS := Lib.hid hS
  have HJ := Lib.hid hJ
  have HY := Lib.hid hY
  have HL := Lib.hid hL
  have hc0 := hS.b1.2.2
  obtain ⟨us, hus, hsm, hsu⟩ := tail_run hS.sm (by omega)
  rw [hln] at hsu
  obtain ⟨cap2, rfl⟩ := hsu (by omega)
  clear hS hJ hY hsu hsm hL
  refine callsIn_of_wp Tryz.func332 rfl trivial ?_ rfl
  simp only [Tryz.ntmps332, List.size_toArray, List.length_cons, List.length_nil, Nat.reduceAdd, Nat.reduceSub, Array.replicate_succ, Array.replicate_zero, List.push_toArray, List.append_toArray, List.nil_append, List.cons_append]
  gi_wp2
  gi_loopw [10, 3] (fun i q3 wr => ∃ (k : Nat), k ≤ n - 1 ∧ i = .int .i64 k ∧ q3 = .int .i64 (ahd l k) ∧ J (prsG l k) wr ∧ ButX n₀ X W wr)
    (fun i q3 wr => n - (intOf i).toNat)
  case atStart => exact ⟨0, Nat.zero_le _, rfl, rfl, h0, ButX.refl _ _ _⟩
  case round =>
    obtain ⟨k, hk, rfl, rfl, hJs, hB⟩ := hrel
    have HJs := Lib.hid hJs
    have HB := Lib.hid hB
    have HS1 := Lib.hid (HS.out.but hB)
    clear hJs hB h0 hc0
    by_cases hlt : k < n - 1
    · obtain ⟨-, -, c0⟩ := HS1.out.b1
      have hk1 : k + 1 < l.length := by omega
      have hk2 : k ≤ 1000 := by have := HL.out.len; omega
      obtain ⟨b', off', hb', hbl, d0, d1⟩ := HS1.out.sm.at_ (i := k) (by omega)
      simp only [Option.some.injEq, Addr.mk.injEq, and_true] at hb'
      obtain ⟨rfl, rfl⟩ := hb'
      obtain ⟨b', off', hb', -, e0, e1⟩ := HS1.out.sm.at_ (i := k + 1) hk1
      simp only [Option.some.injEq, Addr.mk.injEq, and_true] at hb'
      obtain ⟨rfl, rfl⟩ := hb'
      rw [show off + (k + 1) * 2 = off + 2 + k * 2 by omega] at e0 e1
      have hT := dT_ok HL.out hk1
      have hV := dV_ok HL.out hk1
      have hA := ahd_ok HL.out (k := k) (by omega)
      have HPR := Lib.hid (show prG l k = (foldN (dT l k - ahd l k), foldN (dV l k)) from rfl)
      have HAH := Lib.hid (show ahd l (k + 1) = dT l k by unfold ahd; rw [if_neg (by omega)]; rfl)
      have ht0 := HL.out.t0 k (by omega)
      have ht1 := HL.out.t0 (k + 1) hk1
      have hv0 := HL.out.v0 k (by omega)
      have hv1 := HL.out.v0 (k + 1) hk1
      have hdT : (l.getD (k + 1) (0, 0)).1 - (l.getD k (0, 0)).1 = dT l k := rfl
      have hdV : (l.getD (k + 1) (0, 0)).2 - (l.getD k (0, 0)).2 = dV l k := rfl
      generalize (l.getD k (0, 0)).1 = x0 at *
      generalize (l.getD k (0, 0)).2 = x1 at *
      generalize (l.getD (k + 1) (0, 0)).1 = y0 at *
      generalize (l.getD (k + 1) (0, 0)).2 = y1 at *
      generalize dT l k = dt at *
      generalize dV l k = dv at *
      generalize ahd l k = ah at *
      have hB1 : B1 < wr.heap.size := World.block_lt_of_cell? wr _ c0
      have hw1 : IntKind.i64.wrap (y0 - x0) = dt := by rw [hdT]; exact IntWalk.i64_in _ (by omega)
      have hw2 : IntKind.i64.wrap (dt - ah) = dt - ah := IntWalk.i64_in _ (by omega)
      have hw3 : IntKind.i64.wrap (y1 - x1) = dv := by rw [hdV]; exact IntWalk.i64_in _ (by omega)
      have hi0 : (0 : Int) ≤ k := by omega
      have hi1 : (k : Int) < n := by omega
      clear hdT hdV
      gi_wp2
      gi_quiet (fail)
      gi_wp2
      have hbn : Below wr.heap.size wr ((wr.alloc (.cells #[.int .i64 y0, .int .i64 y1] 211)).drewN (nq + 1)) := belowN ((Below.refl _ _).alloc (Nat.le_refl _) _) (nq + 1)
      have hbk := ButX.own (N := n₀) (X := X) hbn
      obtain ⟨fn, tmps, assign, body, hy, hR⟩ := HY.out (prsG l k) (prG l k) _ (HJ.out _ _ _ none HJs.out (below_grown hbn) (by simp)) (by rw [prsG_len]; exact hlt)
      rw [HPR.out] at hy hR
      simp only at hy
      have hbr := Lib.hid (show RoundIn Fence.wide (fu - 1) Tryz.prog y fn tmps assign body _ (fun e W' => ∃ β : Bool, e = .returned (.bool β) ∧ ((β = true ∧ J (prsG l k ++ [(foldN (dt - ah), foldN dv)]) W' ∧ ButX n₀ X _ W') ∨ (β = false ∧ Jx (prsG l k ++ [(foldN (dt - ah), foldN dv)]) W'))) from hR.mono (by
        rintro e W3 (⟨rfl, h1, h2⟩ | ⟨rfl, h1⟩)
        · exact ⟨true, rfl, .inl ⟨rfl, h1, h2⟩⟩
        · exact ⟨false, rfl, .inr ⟨rfl, h1⟩⟩))
      have hbk2 := Lib.hid hbk
      clear hR hbk
      gi_region_with (first
        | (refine ⟨trivial, ?_⟩; gi_at_call 279; refine (callsIn_wide.2 (fold_any _ _ (by omega) (by omega))).mono ?_; rintro e w5 ⟨rfl, rfl⟩)
        | (refine hbr.out.mono ?_; rintro e W3 ⟨β, rfl, h3⟩))
      all_goals
        (rw [← HPR.out, ← prsG_succ] at h3
         rcases h3 with ⟨rfl, h3, h4⟩ | ⟨rfl, h3⟩
         · have H3 := Lib.hid h3
           have H4 := Lib.hid h4
           clear h3 h4
           gi_wp2
           exact ⟨⟨k + 1, by omega, by go_num, by rw [HAH.out], H3.out, (HB.out.trans hbk2.out).trans H4.out⟩, by simp [intOf]; omega⟩
         · have H3 := Lib.hid h3
           clear h3
           gi_wp2
           refine bodyPost_ret (results_none rfl _ _ _) rfl ?_
           exact ⟨⟨_, rfl⟩, .inr ⟨_, prsG_pre (by omega), H3.out⟩⟩)
    · have hke : k = n - 1 := by omega
      gi_wp2
      go_end0
      exact ⟨⟨_, rfl⟩, .inl ⟨_, rfl, by rw [← hke]; exact HJs.out⟩⟩

theorem numbersG_stops (fu n₀ B1 b off cap n : Nat) (l : List Smp) (X : Nat → Prop) (hfu : 1 ≤ fu) (hn : 2 ≤ n) (hln : l.length = n) (hL : LOk l)
    (w : World) (hn₀ : n₀ ≤ w.heap.size) (hS : NSeenG n₀ X w B1 b off cap n l) :
    SeqStopsK Fence.wide fu Tryz.prog 332 #[.pointer (some ⟨B1, 0, none⟩)] (fun x : Nat × Nat => #[.int .u64 x.1, .int .u64 x.2]) (ButX n₀ X) (fun ys => ys = prsG l (n - 1)) (fun pre => pre <+: prsG l (n - 1)) (n - 1) w :=
  fun y J Jx W hW hJ _ hY h0 =>
    numbersG_in fu y n₀ B1 b off cap n l X hfu hn hln hL J Jx W hJ hY W (hS.but (ButX.below hW fun k _ _ h => Nat.lt_of_lt_of_le h (Nat.le_refl _))) h0

end Go.Proofs.YtheenlomlmbjaaaGreatDoor
