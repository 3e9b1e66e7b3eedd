/-
  delta.numbers: its function value hands out how the samples go on.
-/
import Derived.RangeFuncNested
import Derived.RangeFuncBound
import Derived.RangeFuncCalls
import Derived.RangeFuncLeaves
import Derived.Shelf.Abstract
import Derived.Shelf.RegionOpen
import Derived.OwnWalkIn
import Derived.TacticsInMore
import Derived.LoopNIn
import Derived.LoopIn
import Derived.Sort.QuietIn
import Derived.Test.YtnjcelilljniaaaTSmp
namespace Go.Proofs.Ytnjcelilljniaaa
open Go.RowKit Go.Shelf

attribute [local go_sem] Oper.semAt_some

/-- What lay below N, but for some blocks, lies as it lay. -/
def ButX (N : Nat) (X : Nat → Prop) (A B : World) : Prop := A.heap.size ≤ B.heap.size ∧ ∀ k, k < N → ¬ X k → k < A.heap.size → B.heap[k]? = A.heap[k]?
theorem ButX.refl (N : Nat) (X : Nat → Prop) (A : World) : ButX N X A A := ⟨Nat.le_refl _, fun _ _ _ _ => rfl⟩
theorem ButX.trans {N : Nat} {X : Nat → Prop} {A B C : World} (h : ButX N X A B) (k : ButX N X B C) : ButX N X A C :=
  ⟨Nat.le_trans h.1 k.1, fun i h1 h2 h3 => (k.2 i h1 h2 (Nat.lt_of_lt_of_le h3 h.1)).trans (h.2 i h1 h2 h3)⟩
theorem ButX.below {N n : Nat} {X : Nat → Prop} {A B : World} (h : Below n A B) (hn : ∀ k, k < N → ¬ X k → k < A.heap.size → k < n) : ButX N X A B := ⟨h.size, fun k h1 h2 h3 => h.block k (hn k h1 h2 h3)⟩
theorem ButX.own {N : Nat} {X : Nat → Prop} {A B : World} (h : Below A.heap.size A B) : ButX N X A B := ButX.below h fun _ _ _ h => h
theorem ButX.putObj {N : Nat} {X : Nat → Prop} {w : World} (hN : N ≤ w.heap.size) (W : World) (l : Nat) (o o' : Obj) (hl : w.heap.size ≤ l) (h : W.heap[l]? = some o) (_ : o.isCells = false) (_ : o.isWalk = false) : ButX N X W (W.putObj l o') :=
  ⟨(grownBy_putObj' W l o').size, fun k h1 _ h3 => (grownBy_putObj' W l o').block k h3 (fun e => by cases e; omega)⟩
theorem below_grown {A B : World} (h : Below A.heap.size A B) : A.grownBy B none := ⟨h.os, h.tape, h.output, h.size, fun k hk _ => h.block k hk⟩
theorem ButX.cell {N : Nat} {X : Nat → Prop} {A B : World} (h : ButX N X A B) {b j : Nat} {v : Value} (hN : b < N) (hne : ¬ X b) (hc : A.cell? ⟨b, j, none⟩ = some v) : B.cell? ⟨b, j, none⟩ = some v := by
  rw [World.cell?_of_block (a := ⟨b, j, none⟩) (h.2 b hN hne (World.block_lt_of_cell? A _ hc))]; exact hc
theorem Samples.but {N : Nat} {X : Nat → Prop} {A B : World} {a : Option Addr} {n cap : Nat} {l : List Smp} (h : Samples A (.slice a n cap) l) (hk : ButX N X A B) (ha : l ≠ [] → ∀ b off, a = some ⟨b, off, none⟩ → b < N ∧ ¬ X b) : Samples B (.slice a n cap) l := by
  obtain ⟨a', c, hv, h1, h2, h3⟩ := h
  refine ⟨a', c, hv, h1, h2, fun hx => ?_⟩
  obtain ⟨b, off, hb, hlt, hc⟩ := h3 hx
  simp only [Value.slice.injEq] at hv
  obtain ⟨h4, h5⟩ := ha hx b off (by rw [hv.1, hb])
  exact ⟨b, off, hb, Nat.lt_of_lt_of_le hlt hk.1, fun i hi => ⟨hk.cell h4 h5 (hc i hi).1, hk.cell h4 h5 (hc i hi).2⟩⟩

/-- Samples of even times, of one value. -/
def smpL (n st : Nat) (v : Int) : List Smp := (List.range n).map fun i => (((i * st : Nat) : Int), v)
theorem smpL_len (n st : Nat) (v : Int) : (smpL n st v).length = n := by simp [smpL]
theorem smpL_get {n st : Nat} {v : Int} {i : Nat} (h : i < n) : (smpL n st v).getD i (0, 0) = (((i * st : Nat) : Int), v) := by
  simp [smpL, List.getD, List.getElem?_map, List.getElem?_range h]
/-- How they go on. -/
def pr (st k : Nat) : Nat × Nat := (if k = 0 then 2 * st else 0, 0)
def prsL (st m : Nat) : List (Nat × Nat) := (List.range m).map (pr st)
theorem prsL_len (st m : Nat) : (prsL st m).length = m := by simp [prsL]
theorem prsL_succ (st m : Nat) : prsL st (m + 1) = prsL st m ++ [pr st m] := by simp [prsL, List.range_succ]
theorem prsL_pre {st m k : Nat} (h : k ≤ m) : prsL st k <+: prsL st m := by
  induction m with
  | zero => obtain rfl : k = 0 := by omega
            exact List.prefix_refl _
  | succ m ih =>
    rcases Nat.lt_or_ge m k with h' | h'
    · obtain rfl : k = m + 1 := by omega
      exact List.prefix_refl _
    · rw [prsL_succ]
      exact (ih h').trans (List.prefix_append _ _)

/-- What the function value of delta.numbers has captured: the box of the samples. -/
structure NSeen (n₀ : Nat) (X : Nat → Prop) (w : World) (B1 b off cap n st : Nat) (v : Int) : Prop where
  b1 : B1 < n₀ ∧ ¬ X B1 ∧ w.cell? ⟨B1, 0, none⟩ = some (.slice (some ⟨b, off, none⟩) n cap)
  sm : Samples w (.slice (some ⟨b, off, none⟩) n cap) (smpL n st v)
  at_ : b < n₀ ∧ ¬ X b
theorem NSeen.but {n₀ : Nat} {X : Nat → Prop} {A B : World} {B1 b off cap n st : Nat} {v : Int} (h : NSeen n₀ X A B1 b off cap n st v) (hk : ButX n₀ X A B) : NSeen n₀ X B B1 b off cap n st v :=
  ⟨⟨h.b1.1, h.b1.2.1, hk.cell h.b1.1 h.b1.2.1 h.b1.2.2⟩, h.sm.but hk (fun _ b' off' e => by simp at e; obtain ⟨rfl, _⟩ := e; exact h.at_), h.at_⟩

set_option maxRecDepth 100000 in
theorem numbers_any (a : Option Addr) (n cap : Nat) (w : World) :
    Calls Try.prog 10 #[.slice a n cap] w fun e w' =>
      e = .returned (.func (.func 23) #[] #[.pointer (some ⟨w.heap.size, 0, none⟩)]) ∧ w' = w.alloc (.cells #[.slice a n cap] 22) := by
  go_enter Try.func10, Try.ntmps10
  go_wp2_with fail
  go_ret
  exact ⟨rfl, rfl⟩

set_option maxRecDepth 100000 in
set_option maxHeartbeats 4000000 in
theorem numbers1_in (fu l n₀ B1 b off cap n st : Nat) (X : Nat → Prop) (hfu : 1 ≤ fu) (v : Int) (hn : 2 ≤ n) (hn2 : n ≤ 100) (hst : st ≤ 300) (hv0 : -9223372036854775808 ≤ v) (hv1 : v ≤ 9223372036854775807)
    (J Jx : List (Nat × Nat) → World → Prop) (w0 : World)
    (hJ : AbidesFrom w0.heap.size J)
    (hY : ∀ pre x W1, J pre W1 → pre.length < n - 1 → YieldAt Fence.wide (fu - 1) Try.prog l #[.int .u64 x.1, .int .u64 x.2] W1 fun e W' =>
      (e = .returned (.bool true) ∧ J (pre ++ [x]) W' ∧ ButX n₀ X W1 W') ∨ (e = .returned (.bool false) ∧ Jx (pre ++ [x]) W'))
    (W : World) (hS : NSeen n₀ X W B1 b off cap n st v) (h0 : J [] W) :
    CallsIn Fence.wide fu Try.prog 23 #[.func (.yield l) #[] #[], .pointer (some ⟨B1, 0, none⟩)] W fun e W' =>
      (∃ v, e = .returned v) ∧ ((∃ ys, ys = prsL st (n - 1) ∧ J ys W') ∨ (∃ pre, pre <+: prsL st (n - 1) ∧ Jx pre W')) := by
  have HS := Lib.hid hS
  have HJ := Lib.hid hJ
  have HY := Lib.hid hY
  have hc0 := hS.b1.2.2
  obtain ⟨us, hus, hsm, hsu⟩ := tail_run hS.sm (by rw [smpL_len]; omega)
  rw [smpL_len] at hsu
  obtain ⟨cap2, rfl⟩ := hsu (by omega)
  clear hS hJ hY hsu hsm
  refine callsIn_of_wp Try.func23 rfl trivial ?_ rfl
  simp only [Try.ntmps23, List.size_toArray, List.length_cons, List.length_nil, Nat.reduceAdd, Nat.reduceSub, Array.replicate_succ, Array.replicate_zero, List.push_toArray, List.append_toArray, List.nil_append, List.cons_append]
  gi_wp2
  gi_loopw [10, 3] (fun i q3 wr => ∃ (k ah : Nat), k ≤ n - 1 ∧ i = .int .i64 k ∧ q3 = .int .i64 (ah : Int) ∧ Hid (ah = if k = 0 then 0 else st) ∧ J (prsL st k) wr ∧ ButX n₀ X W wr)
    (fun i q3 wr => n - (intOf i).toNat)
  case atStart => exact ⟨0, 0, Nat.zero_le _, rfl, rfl, Lib.hid rfl, h0, ButX.refl _ _ _⟩
  case round =>
    obtain ⟨k, ah, hk, rfl, rfl, HAh, hJs, hB⟩ := hrel
    have HJs := Lib.hid hJs
    have HB := Lib.hid hB
    have HS1 := Lib.hid (HS.out.but hB)
    clear hJs hB h0 hc0
    by_cases hlt : k < n - 1
    · obtain ⟨-, -, c0⟩ := HS1.out.b1
      obtain ⟨b', off', hb', hbl, d0, d1⟩ := HS1.out.sm.at_ (i := k) (by rw [smpL_len]; omega)
      simp only [Option.some.injEq, Addr.mk.injEq, and_true] at hb'
      obtain ⟨rfl, rfl⟩ := hb'
      obtain ⟨b', off', hb', -, e0, e1⟩ := HS1.out.sm.at_ (i := k + 1) (by rw [smpL_len]; omega)
      simp only [Option.some.injEq, Addr.mk.injEq, and_true] at hb'
      obtain ⟨rfl, rfl⟩ := hb'
      rw [smpL_get (by omega)] at d0 d1 e0 e1
      rw [show off + (k + 1) * 2 = off + 2 + k * 2 by omega] at e0 e1
      simp only at d0 d1 e0 e1
      have hmul : (k + 1) * st = k * st + st := Nat.succ_mul _ _
      have hkb : k * st ≤ 30000 := Nat.le_trans (Nat.mul_le_mul (show k ≤ 100 by omega) hst) (by decide)
      rw [hmul] at e0
      generalize k * st = x0 at *
      clear hmul
      have hah : ah ≤ 300 := by have := HAh.out; split at this <;> omega
      have HPR := Lib.hid (show pr st k = (foldN ((st : Int) - ah), foldN 0) by
        have := HAh.out
        have f0 : foldN 0 = 0 := rfl
        rw [f0]
        unfold pr foldN
        split at this
        · rename_i h0
          rw [if_pos h0, this, if_pos (by omega)]
          congr 1
        · rename_i h0
          rw [if_neg h0, this, if_pos (by omega)]
          congr 1
          omega)
      have hB1 : B1 < wr.heap.size := World.block_lt_of_cell? wr _ c0
      have hw1 : IntKind.i64.wrap ((x0 : Int) + st - x0) = st := by rw [show (x0 : Int) + st - x0 = st by omega]; exact IntWalk.i64_in _ (by omega)
      have hw2 : IntKind.i64.wrap ((st : Int) - ah) = (st : Int) - ah := IntWalk.i64_in _ (by omega)
      have hw3 : IntKind.i64.wrap 0 = 0 := rfl
      have hi0 : (0 : Int) ≤ k := by omega
      have hi1 : (k : Int) < n := by omega
      gi_wp2
      gi_quiet (fail)
      gi_wp2
      have hbn : Below wr.heap.size wr ((wr.alloc (.cells #[.int .i64 ((x0 : Int) + st), .int .i64 v] 25)).drewN (nq + 1)) := belowN ((Below.refl _ _).alloc (Nat.le_refl _) _) (nq + 1)
      have hbk := ButX.own (N := n₀) (X := X) hbn
      obtain ⟨fn, tmps, assign, body, hy, hR⟩ := HY.out (prsL st k) (pr st k) _ (HJ.out _ _ _ none HJs.out (below_grown hbn) (by simp)) (by rw [prsL_len]; exact hlt)
      rw [HPR.out] at hy hR
      simp only at hy
      have hbr := Lib.hid (show RoundIn Fence.wide (fu - 1) Try.prog l fn tmps assign body _ (fun e W' => ∃ β : Bool, e = .returned (.bool β) ∧ ((β = true ∧ J (prsL st k ++ [(foldN ((st : Int) - ah), foldN 0)]) W' ∧ ButX n₀ X _ W') ∨ (β = false ∧ Jx (prsL st k ++ [(foldN ((st : Int) - ah), foldN 0)]) W'))) from hR.mono (by
        rintro e W3 (⟨rfl, h1, h2⟩ | ⟨rfl, h1⟩)
        · exact ⟨true, rfl, .inl ⟨rfl, h1, h2⟩⟩
        · exact ⟨false, rfl, .inr ⟨rfl, h1⟩⟩))
      have hbk2 := Lib.hid hbk
      clear hR hbk
      gi_region_with (first
        | (refine ⟨trivial, ?_⟩; gi_at_call 22; refine (callsIn_wide.2 (fold_any _ _ (by omega) (by omega))).mono ?_; rintro e w5 ⟨rfl, rfl⟩)
        | (refine hbr.out.mono ?_; rintro e W3 ⟨β, rfl, h3⟩))
      all_goals
        (rw [← HPR.out, ← prsL_succ] at h3
         rcases h3 with ⟨rfl, h3, h4⟩ | ⟨rfl, h3⟩
         · have H3 := Lib.hid h3
           have H4 := Lib.hid h4
           clear h3 h4
           gi_wp2
           exact ⟨⟨k + 1, st, by omega, by go_num, rfl, Lib.hid (by rw [if_neg (by omega)]), H3.out, (HB.out.trans hbk2.out).trans H4.out⟩, by simp [intOf]; omega⟩
         · have H3 := Lib.hid h3
           clear h3
           gi_wp2
           refine bodyPost_ret (results_none rfl _ _ _) rfl ?_
           exact ⟨⟨_, rfl⟩, .inr ⟨_, prsL_pre (by omega), H3.out⟩⟩)
    · have hke : k = n - 1 := by omega
      gi_wp2
      go_end0
      exact ⟨⟨_, rfl⟩, .inl ⟨_, rfl, by rw [← hke]; exact HJs.out⟩⟩

end Go.Proofs.Ytnjcelilljniaaa

/-
  delta.Encode: what it writes (plain); rows of numbers; the round that appends to both.
-/
namespace Go.Proofs.Ytnjcelilljniaaa
open Go.RowKit Go.Shelf

/-- Numbers' bits, two by two. -/
def bitsE (a b : Nat) (l : List (Nat × Nat)) : List Bool := l.flatMap fun p => riceB p.1 a ++ riceB p.2 b
def tsL (st n : Nat) : List Nat := (prsL st (n - 1)).map (·.1)
def vsL (st n : Nat) : List Nat := (prsL st (n - 1)).map (·.2)
noncomputable def restL (n st : Nat) : Bytes :=
  [UInt8.ofNat (bestL (tsL st n)), UInt8.ofNat (bestL (vsL st n))] ++ packB (bitsE (bestL (tsL st n)) (bestL (vsL st n)) (prsL st (n - 1)))
/-- What delta.Encode says of samples of even times and values. -/
noncomputable def encL (n st : Nat) (v : Int) : Bytes :=
  if n = 0 then uintL 0 else uintL n ++ (uintL 0 ++ uintL (foldN v)) ++ (if n < 2 then [] else restL n st)

theorem numbers_stops (fu n₀ B1 b off cap n st : Nat) (X : Nat → Prop) (hfu : 1 ≤ fu) (v : Int) (hn : 2 ≤ n) (hn2 : n ≤ 100) (hst : st ≤ 300) (hv0 : -9223372036854775808 ≤ v) (hv1 : v ≤ 9223372036854775807)
    (w : World) (hn₀ : n₀ ≤ w.heap.size) (hS : NSeen n₀ X w B1 b off cap n st v) :
    SeqStopsK Fence.wide fu Try.prog 23 #[.pointer (some ⟨B1, 0, none⟩)] (fun x : Nat × Nat => #[.int .u64 x.1, .int .u64 x.2]) (ButX n₀ X) (fun ys => ys = prsL st (n - 1)) (fun pre => pre <+: prsL st (n - 1)) (n - 1) w :=
  fun l J Jx W hW hJ _ hY h0 =>
    numbers1_in fu l n₀ B1 b off cap n st X hfu v hn hn2 hst hv0 hv1 J Jx W hJ hY W (hS.but (ButX.below hW fun k _ _ h => Nat.lt_of_lt_of_le h (Nat.le_refl _))) h0

def encN (x : Nat) : List Value := [.int .u64 x]
theorem infoU64 : (Try.prog.info? 37).map (fun i => (i.zero, i.size, i.bytes)) = some (some (.int .u64 0), 1, 8) := by kernel_rfl
theorem OwnR.nums {t : Nat} {w : World} {base : Nat} {v : Value} {l : List Nat} (h : OwnR t 1 encN w base v l) : Nums w v l := by
  obtain ⟨a, cap, hv, h1, h2, h3⟩ := OwnR.open_ (enc := encN) (k := 1) (fun _ => rfl) 0 h
  refine ⟨a, cap, hv, h1, h2, fun hx => ?_⟩
  obtain ⟨g, ha, _, hlt, hc⟩ := h3 (List.length_pos_iff.2 hx)
  refine ⟨g, 0, ha, hlt, fun i hi => ?_⟩
  have := hc i hi 0 (by omega)
  rw [Nat.mul_one, Nat.add_zero] at this
  rw [Nat.zero_add]; exact this

/-- In a round: 'append(row, x)' at a step of a region that draws. -/
theorem step_app_in {F : Fence} {n : Nat} (w : World) {ops : Array Oper} {o : Oper} {a : Act} {K : Act → World → Prop} {Q : Exit → Act → World → Prop} {E : Prop} (hgd : o.guard = none) (s x : Operand)
    (ho : o.op = .call { callee := .builtin .append, args := #[s, x], argTypes := #[39, 39] })
    (base : Nat) (v : Value) (l : List Nat) (y : Nat) (g : Nat) (hs : a.eval s = v) (hx : a.eval x = .slice (some ⟨g, 0, none⟩) 1 1)
    (hnew : w.heap[g]? = some (.cells #[.int .u64 y] 37 (0, 0))) (hown : OwnR 37 1 encN w base v l) (hbase : base ≤ w.heap.size) (hlen : l.length ≤ 1000000000)
    (h : ∀ g' cap w', OwnR 37 1 encN w' base (.slice (some ⟨g', 0, none⟩) (l.length + 1) cap) (l ++ [y]) → w.grownBy w' v.ownBlock → (v.ownBlock = some g' ∨ w.heap.size ≤ g') → K (a.put o.dst (.slice (some ⟨g', 0, none⟩) (l.length + 1) cap)) w') :
    if Region.wanted o (yielded ops a.tmps) = true then Oper.wpIn F n Try.prog o a w K Q else E := by
  obtain ⟨i0, hi, hz0, hz1, hz2⟩ := info_parts infoU64
  have hw : Region.wanted o (yielded ops a.tmps) = true := by simp [Region.wanted, hgd]
  rw [if_pos hw]
  obtain ⟨g', cap, w', hr, h2, h3, h4, h5⟩ := run_append_lies (P := Try.prog) w 39 o.type base 37 i0 (.int .u64 0) 1 8 Try.underlying39 hi hz0 hz1 hz2 rfl (by decide) v l.length _ hown ⟨g, 0, none⟩ 1 1 [.int .u64 y]
    rfl (World.news_of_block hnew) (by intro u hu; simp at hu; subst hu; rfl) (by omega) (by simp only [maxLen]; omega) (by omega) hbase _ rfl
  unfold Oper.wpIn
  refine ⟨?_, ?_⟩
  · simp [Oper.about, ho, resolve, Target.leads, Sem.run_pure]
  · rw [Oper.semAt_plain F _ _ (by rw [ho]; intro c hc'; cases hc')]
    unfold execOp
    simp only [ho, resolve, invoke, builtin, Sem.run_bind, Sem.run_pure, Result.andThen_ok, List.map_toArray, List.map_cons, List.map_nil, hs, hx, hr]
    refine h g' cap w' (by unfold OwnR; simpa [encN] using h2) h3 ?_
    rcases h4 with h4 | h4
    · exact .inl h4
    · exact .inr (by omega)

end Go.Proofs.Ytnjcelilljniaaa
