/-
  agg.windows: its function value hands out the runs' windows one by one.
-/
import Derived.RangeFuncNested
import Derived.RangeFuncBound
import Derived.RangeFuncCalls
import Derived.RangeFuncLeaves
import Derived.Shelf.Abstract
import Derived.Shelf.RegionOpen
import Derived.OwnWalkIn
import Derived.TacticsInMore
import Derived.LoopNIn
import Derived.LoopIn
import Derived.Sort.QuietIn
import Derived.Test.YtilkcojfencggaaAClone
import Derived.Test.YtilkcojfencggaaARWin
set_option linter.unusedSimpArgs false
set_option linter.unusedVariables false
namespace Go.Proofs.Ytilkcojfencggaa
open Go.RowKit Go.Shelf

attribute [local go_sem] Oper.semAt_some

/-- What lay below N, but for one block, lies as it lay. -/
def But (N Bo : Nat) (A B : World) : Prop := A.heap.size ≤ B.heap.size ∧ ∀ k, k < N → k ≠ Bo → k < A.heap.size → B.heap[k]? = A.heap[k]?
theorem But.refl (N Bo : Nat) (A : World) : But N Bo A A := ⟨Nat.le_refl _, fun _ _ _ _ => rfl⟩
theorem But.trans {N Bo : Nat} {A B C : World} (h : But N Bo A B) (k : But N Bo B C) : But N Bo A C :=
  ⟨Nat.le_trans h.1 k.1, fun i h1 h2 h3 => (k.2 i h1 h2 (Nat.lt_of_lt_of_le h3 h.1)).trans (h.2 i h1 h2 h3)⟩
theorem But.below {N Bo n : Nat} {A B : World} (h : Below n A B) (hn : ∀ k, k < N → k ≠ Bo → k < A.heap.size → k < n) : But N Bo A B := ⟨h.size, fun k h1 h2 h3 => h.block k (hn k h1 h2 h3)⟩
theorem But.own {N Bo : Nat} {A B : World} (h : Below A.heap.size A B) : But N Bo A B := But.below h fun _ _ _ h => h
theorem But.putObj {N Bo : Nat} {w : World} (hN : N ≤ w.heap.size) (W : World) (l : Nat) (o o' : Obj) (hl : w.heap.size ≤ l) (h : W.heap[l]? = some o) (_ : o.isCells = false) (_ : o.isWalk = false) : But N Bo W (W.putObj l o') :=
  ⟨(grownBy_putObj' W l o').size, fun k h1 _ h3 => (grownBy_putObj' W l o').block k h3 (fun e => by cases e; omega)⟩
theorem below_grown {A B : World} (h : Below A.heap.size A B) : A.grownBy B none := ⟨h.os, h.tape, h.output, h.size, fun k hk _ => h.block k hk⟩

/-- What the function value of agg.windows has captured: the boxes of the samples, of the range, of the step. -/
structure Seen (n₀ Bo : Nat) (w : World) (B1 B2 B3 : Nat) (a : Option Addr) (cap : Nat) (L : List Smp) (f t st : Int) : Prop where
  b1 : B1 < n₀ ∧ B1 ≠ Bo ∧ w.cell? ⟨B1, 0, none⟩ = some (.slice a L.length cap)
  b2 : B2 < n₀ ∧ B2 ≠ Bo ∧ w.cell? ⟨B2, 0, none⟩ = some (.int .i64 f)
  b3 : B3 < n₀ ∧ B3 ≠ Bo ∧ w.cell? ⟨B3, 0, none⟩ = some (.int .i64 st)
  sm : Samples w (.slice a L.length cap) L
  at_ : L ≠ [] → ∀ b off, a = some ⟨b, off, none⟩ → b < n₀ ∧ b ≠ Bo

theorem But.cell {N Bo : Nat} {A B : World} (h : But N Bo A B) {b j : Nat} {v : Value} (hN : b < N) (hne : b ≠ Bo) (hc : A.cell? ⟨b, j, none⟩ = some v) : B.cell? ⟨b, j, none⟩ = some v := by
  rw [World.cell?_of_block (a := ⟨b, j, none⟩) (h.2 b hN hne (World.block_lt_of_cell? A _ hc))]; exact hc
theorem Samples.but {N Bo : Nat} {A B : World} {a : Option Addr} {n cap : Nat} {l : List Smp} (h : Samples A (.slice a n cap) l) (hk : But N Bo A B) (ha : l ≠ [] → ∀ b off, a = some ⟨b, off, none⟩ → b < N ∧ b ≠ Bo) : Samples B (.slice a n cap) l := by
  obtain ⟨a', c, hv, h1, h2, h3⟩ := h
  refine ⟨a', c, hv, h1, h2, fun hx => ?_⟩
  obtain ⟨b, off, hb, hlt, hc⟩ := h3 hx
  simp only [Value.slice.injEq] at hv
  obtain ⟨h4, h5⟩ := ha hx b off (by rw [hv.1, hb])
  exact ⟨b, off, hb, Nat.lt_of_lt_of_le hlt hk.1, fun i hi => ⟨hk.cell h4 h5 (hc i hi).1, hk.cell h4 h5 (hc i hi).2⟩⟩
theorem Seen.but {n₀ Bo : Nat} {A B : World} {B1 B2 B3 : Nat} {a : Option Addr} {cap : Nat} {L : List Smp} {f t st : Int} (h : Seen n₀ Bo A B1 B2 B3 a cap L f t st) (hk : But n₀ Bo A B) : Seen n₀ Bo B B1 B2 B3 a cap L f t st :=
  ⟨⟨h.b1.1, h.b1.2.1, hk.cell h.b1.1 h.b1.2.1 h.b1.2.2⟩, ⟨h.b2.1, h.b2.2.1, hk.cell h.b2.1 h.b2.2.1 h.b2.2.2⟩, ⟨h.b3.1, h.b3.2.1, hk.cell h.b3.1 h.b3.2.1 h.b3.2.2⟩, h.sm.but hk h.at_, h.at_⟩

theorem winsL_nil (f st : Int) : winsL f st [] = [] := by unfold winsL; rw [runs_nil]; rfl
theorem winsL_cons (f st : Int) (x : Smp) (r : List Smp) : winsL f st (x :: r) = winOf f st (x :: r.takeWhile fun y => keyOf f st y == keyOf f st x) :: winsL f st (r.dropWhile fun y => keyOf f st y == keyOf f st x) := by
  unfold winsL; rw [runs_cons]; rfl
theorem runs_len (key : Smp → Int) : ∀ (n : Nat) (l : List Smp), l.length ≤ n → (runs key l).length ≤ l.length := by
  intro n
  induction n with
  | zero => intro l h; rw [List.eq_nil_of_length_eq_zero (Nat.le_zero.1 h), runs_nil]; exact Nat.le_refl _
  | succ n ih =>
    intro l h
    cases l with
    | nil => rw [runs_nil]; exact Nat.le_refl _
    | cons x r =>
      rw [runs_cons]
      have h1 := drop_len (fun y => key y == key x) r
      have := ih (r.dropWhile fun y => key y == key x) (by simp only [List.length_cons] at h; omega)
      simp only [List.length_cons]
      omega
theorem winsL_len (f st : Int) (l : List Smp) : (winsL f st l).length ≤ l.length := by
  unfold winsL; rw [List.length_map]; exact runs_len _ _ _ (Nat.le_refl _)

set_option maxRecDepth 100000 in
theorem windows_any (a : Option Addr) (n cap : Nat) (f t st : Int) (w : World) :
    Calls Try.prog 16 #[.slice a n cap, .agg #[.int .i64 f, .int .i64 t], .int .i64 st] w fun e w' =>
      e = .returned (.func (.func 21) #[] #[.pointer (some ⟨w.heap.size, 0, none⟩), .pointer (some ⟨w.heap.size + 1, 0, none⟩), .pointer (some ⟨w.heap.size + 1 + 1, 0, none⟩)]) ∧
      w' = ((w.alloc (.cells #[.slice a n cap] 22)).alloc (.cells #[.int .i64 f, .int .i64 t] 24)).alloc (.cells #[.int .i64 st] 3) := by
  go_enter Try.func16, Try.ntmps16
  go_wp2_with fail
  go_ret
  exact ⟨rfl, rfl⟩

theorem sub_wf {L g : List Smp} {k m : Nat} (h : WfS L) (e : (L.drop k).take m = g) : WfS g := fun y hy => by
  rw [← e] at hy; exact h y (List.mem_of_mem_drop (List.mem_of_mem_take hy))
theorem seen_cells {n₀ Bo : Nat} {w : World} {B1 B2 B3 : Nat} {a : Option Addr} {cap : Nat} {L : List Smp} {f t st : Int} (h : Seen n₀ Bo w B1 B2 B3 a cap L f t st) :
    w.cell? ⟨B1, 0, none⟩ = some (.slice a L.length cap) ∧ w.cell? ⟨B2, 0, none⟩ = some (.int .i64 f) ∧ w.cell? ⟨B3, 0, none⟩ = some (.int .i64 st) := ⟨h.b1.2.2, h.b2.2.2, h.b3.2.2⟩
theorem get_at {L : List Smp} {k tt : Nat} {x : Smp} {r : List Smp} (h : L.drop k = x :: r) : L.getD (k + tt) (0, 0) = (x :: r).getD tt (0, 0) := by
  rw [← h]; simp [List.getD, List.getElem?_drop]
theorem key_in {f st : Int} {L : List Smp} {k : Nat} {x : Smp} (h : L.drop k = x :: L.drop (k + 1)) :
    ∀ tt, tt ≤ ((L.drop (k + 1)).takeWhile fun y => keyOf f st y == keyOf f st x).length → (((L.getD (k + tt) (0, 0)).1 - f) / st == (x.1 - f) / st) = true := by
  intro tt htt
  rw [get_at h]
  cases tt with
  | zero => simp
  | succ j => exact runs_at (p := fun y => keyOf f st y == keyOf f st x) (r := L.drop (k + 1)) (i := j) (by omega)
theorem key_out {f st : Int} {L : List Smp} {k : Nat} {x : Smp} (h : L.drop k = x :: L.drop (k + 1)) (hk : k < L.length) :
    k + (((L.drop (k + 1)).takeWhile fun y => keyOf f st y == keyOf f st x).length + 1) < L.length → (((L.getD (k + (((L.drop (k + 1)).takeWhile fun y => keyOf f st y == keyOf f st x).length + 1)) (0, 0)).1 - f) / st == (x.1 - f) / st) = false := by
  intro hl
  rw [get_at h]
  exact run_end (p := fun y => keyOf f st y == keyOf f st x) (r := L.drop (k + 1)) (by rw [List.length_drop]; omega)

set_option maxRecDepth 100000 in
set_option maxHeartbeats 4000000 in
theorem windows1_in (n l n₀ Bo B1 B2 B3 cap : Nat) (hn : 1 ≤ n) (a : Option Addr) (L : List Smp) (f t st : Int) (hf : 0 ≤ f) (hst : 1 ≤ st) (hst2 : st ≤ 9223372036854775807) (hL : ∀ x ∈ L, f ≤ x.1 ∧ x.1 < 1099511627776) (hlen : L.length ≤ 1000000) (hw : WfS L)
    (J Jx : List Win → World → Prop) (w0 : World)
    (hJ : AbidesFrom w0.heap.size J)
    (hY : ∀ pre x W1, J pre W1 → pre.length < (winsL f st L).length → YieldAt Fence.wide (n - 1) Try.prog l #[winV x] W1 fun e W' =>
      (e = .returned (.bool true) ∧ J (pre ++ [x]) W' ∧ But n₀ Bo W1 W') ∨ (e = .returned (.bool false) ∧ Jx (pre ++ [x]) W'))
    (W : World) (hS : Seen n₀ Bo W B1 B2 B3 a cap L f t st) (h0 : J [] W) :
    CallsIn Fence.wide n Try.prog 21 #[.func (.yield l) #[] #[], .pointer (some ⟨B1, 0, none⟩), .pointer (some ⟨B2, 0, none⟩), .pointer (some ⟨B3, 0, none⟩)] W fun e W' =>
      (∃ v, e = .returned v) ∧ ((∃ ys, ys = winsL f st L ∧ J ys W') ∨ (∃ pre, pre <+: winsL f st L ∧ Jx pre W')) := by
  have HS := Lib.hid hS
  have HJ := Lib.hid hJ
  have HY := Lib.hid hY
  have HL := Lib.hid hL
  have HWf := Lib.hid hw
  clear hS hJ hY hL hw
  refine callsIn_of_wp Try.func21 rfl trivial ?_ rfl
  simp only [Try.ntmps21, List.size_toArray, List.length_cons, List.length_nil, Nat.reduceAdd, Nat.reduceSub, Array.replicate_succ, Array.replicate_zero, List.push_toArray, List.append_toArray, List.nil_append, List.cons_append]
  gi_wp2
  gi_loopw [5, 6, 7, 8] (fun i q6 q7 q8 wr => ∃ (k : Nat) (pre : List Win), k ≤ L.length ∧ i = .int .i64 k ∧ winsL f st L = pre ++ winsL f st (L.drop k) ∧ J pre wr ∧ But n₀ Bo W wr)
    (fun i q6 q7 q8 wr => L.length - (intOf i).toNat)
  case atStart => exact ⟨0, [], Nat.zero_le _, rfl, rfl, h0, But.refl _ _ _⟩
  case round =>
    obtain ⟨k, pre, hk, rfl, hx, hJs, hB⟩ := hrel
    have HX := Lib.hid hx
    have HJs := Lib.hid hJs
    have HB := Lib.hid hB
    have HS1 := Lib.hid (HS.out.but hB)
    clear hx hJs hB h0
    obtain ⟨-, -, c1⟩ := HS1.out.b1
    obtain ⟨-, -, c2⟩ := HS1.out.b2
    obtain ⟨-, -, c3⟩ := HS1.out.b3
    by_cases hlt : k < L.length
    · obtain ⟨b, off, rfl, hb, hc1, hc2⟩ := HS1.out.sm.at_ hlt
      have hmm : L.getD k (0, 0) ∈ L := by simp only [List.getD, List.getElem?_eq_getElem hlt, Option.getD_some]; exact List.getElem_mem hlt
      have HM := Lib.hid (HL.out _ hmm)
      clear hmm
      have hdr : L.drop k = L.getD k (0, 0) :: L.drop (k + 1) := by
        rw [List.drop_eq_getElem_cons hlt]; simp [List.getD, List.getElem?_eq_getElem hlt]
      have HDr := Lib.hid hdr
      clear hdr
      generalize L.getD k (0, 0) = x at *
      obtain ⟨x1, x2⟩ := x
      obtain ⟨hx1, hx2⟩ := HM.out
      simp only at hx1 hx2 hc1 hc2
      have hq0 : (0 : Int) ≤ (x1 - f) / st := Int.ediv_nonneg (by omega) (by omega)
      have hq1 : (x1 - f) / st ≤ x1 - f := Int.ediv_le_self _ (by omega)
      have hq2 : (x1 - f) / st * st ≤ x1 - f := Int.ediv_mul_le _ (by omega)
      have hq3 : 0 ≤ (x1 - f) / st * st := Int.mul_nonneg hq0 (by omega)
      have hj0 : (0 : Int) ≤ (k : Int) := by omega
      have hj1 : (k : Int) < (L.length : Int) := by omega
      have hw1 : IntKind.i64.wrap (x1 - f) = x1 - f := IntWalk.i64_in _ (by omega)
      have hw2 : IntKind.i64.wrap ((x1 - f).tdiv st) = (x1 - f) / st := IntWalk.i64_quo _ _ (by omega)
      have hst0 : (st == 0) = false := by simp; omega
      have hst1 : st ≠ 0 := by omega
      gi_wp2
      gi_quiet (fail)
      gi_wp2
      have hsz : (L.drop (k + 1)).length = L.length - (k + 1) := List.length_drop
      have hrl := run_len (p := fun y => keyOf f st y == keyOf f st (x1, x2)) (L.drop (k + 1))
      have HKin := Lib.hid (key_in (f := f) (st := st) HDr.out)
      have HKout := Lib.hid (key_out (f := f) (st := st) HDr.out hlt)
      have HTk := Lib.hid (take_run (p := fun y => keyOf f st y == keyOf f st (x1, x2)) (L.drop (k + 1)))
      have HDk := Lib.hid (drop_run (p := fun y => keyOf f st y == keyOf f st (x1, x2)) (L.drop (k + 1)))
      have HDn := Lib.hid (show L.drop (k + (((L.drop (k + 1)).takeWhile fun y => keyOf f st y == keyOf f st (x1, x2)).length + 1)) = (L.drop (k + 1)).dropWhile fun y => keyOf f st y == keyOf f st (x1, x2) by rw [← HDk.out, List.drop_drop]; congr 1; omega)
      have HWc := Lib.hid (winsL_cons f st (x1, x2) (L.drop (k + 1)))
      generalize hT : ((L.drop (k + 1)).takeWhile fun y => keyOf f st y == keyOf f st (x1, x2)).length = T at *
      clear hc1 hc2 c1 c2 c3 hw1 hw2 hj0 hj1
      obtain ⟨us, hus, hsm0⟩ := part_run HS1.out.sm k (k + (T + 1)) (by omega) (by omega)
      have hsub : (L.drop k).take (k + (T + 1) - k) = (x1, x2) :: (L.drop (k + 1)).takeWhile fun y => keyOf f st y == keyOf f st (x1, x2) := by
        rw [show k + (T + 1) - k = T + 1 by omega, HDr.out, List.take_succ_cons, HTk.out]
      rw [hsub] at hsm0
      have HSub := Lib.hid hsm0
      have HSW := Lib.hid (sub_wf HWf.out hsub)
      have hpr : ∀ w', (Instr.sliceAt 22 (.slice (some ⟨b, off, none⟩) L.length cap) (some (.int .i64 (k : Int))) (some (.int .i64 ((k : Int) + ((T : Int) + 1)))) none).run Try.prog w' = .ok us w' := fun w' => by
        have := hus w'
        rwa [show ((k + (T + 1) : Nat) : Int) = (k : Int) + ((T : Int) + 1) by omega] at this
      have hgl : ((x1, x2) :: (L.drop (k + 1)).takeWhile fun y => keyOf f st y == keyOf f st (x1, x2)).length ≤ 1000000 := by rw [← hsub, List.length_take, List.length_drop]; omega
      clear hus hsm0 hsub
      have HTot := Lib.hid (fun w h => total_any us _ w h HSW.out hgl)
      have HWin := Lib.hid (show winOf f st ((x1, x2) :: (L.drop (k + 1)).takeWhile fun y => keyOf f st y == keyOf f st (x1, x2)) = { totL ((x1, x2) :: (L.drop (k + 1)).takeWhile fun y => keyOf f st y == keyOf f st (x1, x2)) with f := f + (x1 - f) / st * st } from rfl)
      rw [HWin.out] at HWc
      clear HWin hgl HSW
      generalize ((x1, x2) :: (L.drop (k + 1)).takeWhile fun y => keyOf f st y == keyOf f st (x1, x2)) = g at HTot HWc HSub
      generalize totL g = z at HTot HWc
      obtain ⟨z1, z2, z3, z4, z5⟩ := z
      simp only [winV] at HTot
      have hw3 : IntKind.i64.wrap ((x1 - f) / st * st) = (x1 - f) / st * st := IntWalk.i64_in _ (by omega)
      have hw4 : IntKind.i64.wrap (f + (x1 - f) / st * st) = f + (x1 - f) / st * st := IntWalk.i64_in _ (by omega)
      obtain ⟨wo, rfl⟩ : ∃ wo, wo = wr := ⟨_, rfl⟩
      generalize hq : (x1 - f) / st = q at *
      gi_loopw [7] (fun p w3 => ∃ tt : Nat, tt ≤ T + 1 ∧ p = .int .i64 ((k + tt : Nat) : Int) ∧ Below wo.heap.size wo w3)
        (fun p w3 => k + T + 1 - (intOf p).toNat)
      case atStart => exact ⟨0, Nat.zero_le _, rfl, belowN (Below.refl _ _) nq⟩
      case round =>
        obtain ⟨tt, htt, rfl, hb3⟩ := hrel
        have HB3 := Lib.hid hb3
        have HS3 := Lib.hid (HS1.out.but (But.own hb3))
        clear hb3
        obtain ⟨-, -, c1⟩ := HS3.out.b1
        obtain ⟨-, -, c2⟩ := HS3.out.b2
        obtain ⟨-, -, c3⟩ := HS3.out.b3
        by_cases hlt2 : k + tt < L.length
        · obtain ⟨b', off', hbb', -, hd1, hd2⟩ := HS3.out.sm.at_ hlt2
          obtain ⟨rfl, rfl⟩ : b = b' ∧ off = off' := by simpa using hbb'
          clear hbb'
          have HM2 := Lib.hid (HL.out (L.getD (k + tt) (0, 0)) (by simp only [List.getD, List.getElem?_eq_getElem hlt2, Option.getD_some]; exact List.getElem_mem hlt2))
          by_cases hin : tt ≤ T
          · have hkk := HKin.out tt (by omega)
            generalize L.getD (k + tt) (0, 0) = y at *
            obtain ⟨y1, y2⟩ := y
            obtain ⟨hy1, hy2⟩ := HM2.out
            simp only at hy1 hy2 hd1 hd2 hkk
            have hj0 : (0 : Int) ≤ (k : Int) + (tt : Int) := by omega
            have hj1 : (k : Int) + (tt : Int) < (L.length : Int) := by omega
            have hw1 : IntKind.i64.wrap (y1 - f) = y1 - f := IntWalk.i64_in _ (by omega)
            have hw2 : IntKind.i64.wrap ((y1 - f).tdiv st) = (y1 - f) / st := IntWalk.i64_quo _ _ (by omega)
            gi_wp2
            gi_quiet (fail)
            gi_wp2
            exact ⟨⟨tt + 1, by omega, by go_num, belowN HB3.out _⟩, by simp [intOf]; omega⟩
          · obtain rfl : tt = T + 1 := by omega
            have hkk := HKout.out (by omega)
            generalize L.getD (k + (T + 1)) (0, 0) = y at *
            obtain ⟨y1, y2⟩ := y
            obtain ⟨hy1, hy2⟩ := HM2.out
            simp only at hy1 hy2 hd1 hd2 hkk
            have hj0 : (0 : Int) ≤ (k : Int) + ((T : Int) + 1) := by omega
            have hj1 : (k : Int) + ((T : Int) + 1) < (L.length : Int) := by omega
            have hw1 : IntKind.i64.wrap (y1 - f) = y1 - f := IntWalk.i64_in _ (by omega)
            have hw2 : IntKind.i64.wrap ((y1 - f).tdiv st) = (y1 - f) / st := IntWalk.i64_quo _ _ (by omega)
            gi_wp2
            gi_quiet (fail)
            gi_wp2_with (
              refine ⟨trivial, ?_⟩
              gi_at_call 8
              refine (callsIn_wide.2 (HTot.out _ (HSub.out.below ((HB3.out.mono (Nat.le_refl _)).trans (belowN (Below.refl _ _) _))))).mono ?_
              rintro e w5 ⟨rfl, hd5⟩
              have hB5 := (belowN HB3.out nq).trans (hd5.mono HB3.out.size)
              have hBn := hB5.alloc hB5.size (.cells #[.int .i64 (f + q * st), .int .i64 z2, .int .i64 z3, .int .i64 z4, .int .i64 z5] 34)
              obtain ⟨c1, c2, c3⟩ := seen_cells (HS1.out.but (But.own hB5))
              have l2 : B2 < w5.heap.size := World.block_lt_of_cell? w5 _ c2
              have l3 : B3 < w5.heap.size := World.block_lt_of_cell? w5 _ c3
              obtain ⟨fn, tmps, assign, body, hy, hR⟩ := HY.out pre ⟨f + q * st, z2, z3, z4, z5⟩ _ (HJ.out _ _ _ none HJs.out (below_grown hBn) (by simp)) (by rw [HX.out, HDr.out, HWc.out]; simp)
              simp only [winV] at hy)
            have hbk := But.own (N := n₀) (Bo := Bo) hBn
            refine hR.mono ?_
            rintro e W3 (⟨rfl, hJ3, hk3⟩ | ⟨rfl, hJx3⟩)
            · gi_wp2
              exact ⟨⟨k + (T + 1), pre ++ [⟨f + q * st, z2, z3, z4, z5⟩], by omega, by go_num, by rw [HX.out, HDr.out, HWc.out, HDn.out]; simp, hJ3, (HB.out.trans hbk).trans hk3⟩, by simp [intOf]; omega⟩
            · gi_wp2
              refine bodyPost_ret (results_none rfl _ _ _) rfl ?_
              exact ⟨⟨_, rfl⟩, .inr ⟨_, ⟨_, by rw [HX.out, HDr.out, HWc.out, List.append_assoc]; rfl⟩, hJx3⟩⟩
        · obtain rfl : tt = T + 1 := by omega
          have hg0 : decide ((k : Int) + ((T : Int) + 1) < (L.length : Int)) = false := by simp; omega
          have hg1 : ¬ ((k : Int) + ((T : Int) + 1) < (L.length : Int)) := by omega
          gi_wp2
          gi_quiet (fail)
          gi_wp2_with (
            refine ⟨trivial, ?_⟩
            gi_at_call 8
            refine (callsIn_wide.2 (HTot.out _ (HSub.out.below ((HB3.out.mono (Nat.le_refl _)).trans (belowN (Below.refl _ _) _))))).mono ?_
            rintro e w5 ⟨rfl, hd5⟩
            have hB5 := (belowN HB3.out nq).trans (hd5.mono HB3.out.size)
            have hBn := hB5.alloc hB5.size (.cells #[.int .i64 (f + q * st), .int .i64 z2, .int .i64 z3, .int .i64 z4, .int .i64 z5] 34)
            obtain ⟨c1, c2, c3⟩ := seen_cells (HS1.out.but (But.own hB5))
            have l2 : B2 < w5.heap.size := World.block_lt_of_cell? w5 _ c2
            have l3 : B3 < w5.heap.size := World.block_lt_of_cell? w5 _ c3
            obtain ⟨fn, tmps, assign, body, hy, hR⟩ := HY.out pre ⟨f + q * st, z2, z3, z4, z5⟩ _ (HJ.out _ _ _ none HJs.out (below_grown hBn) (by simp)) (by rw [HX.out, HDr.out, HWc.out]; simp)
            simp only [winV] at hy)
          have hbk := But.own (N := n₀) (Bo := Bo) hBn
          refine hR.mono ?_
          rintro e W3 (⟨rfl, hJ3, hk3⟩ | ⟨rfl, hJx3⟩)
          · gi_wp2
            exact ⟨⟨k + (T + 1), pre ++ [⟨f + q * st, z2, z3, z4, z5⟩], by omega, by go_num, by rw [HX.out, HDr.out, HWc.out, HDn.out]; simp, hJ3, (HB.out.trans hbk).trans hk3⟩, by simp [intOf]; omega⟩
          · gi_wp2
            refine bodyPost_ret (results_none rfl _ _ _) rfl ?_
            exact ⟨⟨_, rfl⟩, .inr ⟨_, ⟨_, by rw [HX.out, HDr.out, HWc.out, List.append_assoc]; rfl⟩, hJx3⟩⟩
    · have hke : k = L.length := by omega
      have HE := Lib.hid (show winsL f st L = pre by have := HX.out; rw [hke, List.drop_eq_nil_of_le (Nat.le_refl _), winsL_nil, List.append_nil] at this; exact this)
      gi_wp2
      go_end0
      exact ⟨⟨_, rfl⟩, .inl ⟨_, rfl, by rw [HE.out]; exact HJs.out⟩⟩

/-- The function value of agg.windows, as a loop over it wants it. -/
theorem windows_stops (n n₀ Bo B1 B2 B3 cap : Nat) (hn : 1 ≤ n) (a : Option Addr) (L : List Smp) (f t st : Int) (hf : 0 ≤ f) (hst : 1 ≤ st) (hst2 : st ≤ 9223372036854775807) (hL : ∀ x ∈ L, f ≤ x.1 ∧ x.1 < 1099511627776) (hlen : L.length ≤ 1000000) (hw : WfS L)
    (w : World) (hn₀ : n₀ ≤ w.heap.size) (hS : Seen n₀ Bo w B1 B2 B3 a cap L f t st) :
    SeqStopsK Fence.wide n Try.prog 21 #[.pointer (some ⟨B1, 0, none⟩), .pointer (some ⟨B2, 0, none⟩), .pointer (some ⟨B3, 0, none⟩)] (fun x : Win => #[winV x]) (But n₀ Bo) (fun ys => ys = winsL f st L) (fun pre => pre <+: winsL f st L) (winsL f st L).length w :=
  fun l J Jx W hW hJ _ hY h0 =>
    windows1_in n l n₀ Bo B1 B2 B3 cap hn a L f t st hf hst hst2 hL hlen hw J Jx W hJ hY W (hS.but (But.below hW fun k _ _ h => h)) h0

end Go.Proofs.Ytilkcojfencggaa
