/-
  major.parts and major.read.
-/
import Derived.RangeFuncNested
import Derived.RangeFuncBound
import Derived.RangeFuncCalls
import Derived.RangeFuncLeaves
import Derived.Shelf.Abstract
import Derived.Shelf.RegionOpen
import Derived.OwnWalkIn
import Derived.TacticsInMore
import Derived.LoopNIn
import Derived.LoopIn
import Derived.Sort.QuietIn
import Derived.Test.YtnjcelilljniaaaTTable
namespace Go.Proofs.Ytnjcelilljniaaa
open Go.RowKit Go.Shelf

attribute [local go_sem] Oper.semAt_some

theorem smid_run (l : Bytes) (i k : Nat) (h1 : i ≤ k) (h2 : k ≤ l.length) (w : World) : (Instr.sliceAt 9 (.string (bs l)) (some (.int .i64 i)) (some (.int .i64 k)) none).run Try.prog w = .ok (.string (bs ((l.drop i).take (k - i)))) w := by
  rw [run_sliceAt_string _ _ _ _ _ _ Try.underlying9, run_slice_string _ _ _ _ _ _ _ Try.underlying9 (by omega) (by omega) (by rw [bs_size]; omega)]
  rw [bs_extract, Int.toNat_natCast, Int.toNat_natCast]

set_option maxRecDepth 100000 in
theorem parts_any (S : Bytes) (a : Option Addr) (m c : Nat) (w : World) :
    Calls Try.prog 34 #[.string (bs S), .slice a m c] w fun e w' =>
      e = .returned (.func (.func 55) #[] #[.pointer (some ⟨w.heap.size + 1, 0, none⟩), .pointer (some ⟨w.heap.size, 0, none⟩)]) ∧ w' = (w.alloc (.cells #[.string (bs S)] 9)).alloc (.cells #[.slice a m c] 81) := by
  go_enter Try.func34, Try.ntmps34
  go_wp2_with fail
  go_ret
  exact ⟨by simp, rfl⟩

set_option maxRecDepth 100000 in
theorem majRead_any (n st : Nat) (v : Int) (w : World) (h0 : n ≠ 0) (hn : n ≤ 90) (hst1 : 1 ≤ st) (hst : st ≤ 300) (hv0 : -9223372036854775808 ≤ v) (hv1 : v ≤ 9223372036854775807) :
    Calls Try.prog 35 #[.string (bs (encL n st v))] w fun e w' => ∃ u, e = .returned (.tuple #[u, .int .i64 0]) ∧ Samples w' u (smpL n st v) ∧ Below w.heap.size w w' := by
  have HD := Lib.hid (decode_any n st v w hn hst1 hst hv0 hv1)
  generalize encL n st v = S at *
  go_enter Try.func35, Try.ntmps35
  go_wp2_with fail
  refine HD.out.mono ?_
  rintro e w1 ⟨u, rfl, hs, hb⟩
  have HS := Lib.hid hs
  have HB := Lib.hid hb
  obtain ⟨a, c, rfl, -⟩ := hs
  rw [smpL_len] at HS ⊢
  clear hb
  have hn0 : ((n : Int) == 0) = false := by rw [beq_eq_false_iff_ne]; omega
  go_wp2_with fail
  go_ret2
  exact ⟨_, rfl, HS.out, HB.out⟩

/-- What parts hand out. -/
def partL (n : Nat) : List Unit := if n = 0 then [] else [()]
theorem partL_len (n : Nat) : (partL n).length ≤ 1 := by unfold partL; split <;> simp

/-- What the function value of parts has captured. -/
structure PSeen (W : World) (A1 A2 : Nat) (n st : Nat) (v : Int) : Prop where
  ent : ∃ u, W.cell? ⟨A1, 0, none⟩ = some u ∧ Ent W u n (majH n st v).length ((majH n st v).length + (encL n st v).length)
  str : W.cell? ⟨A2, 0, none⟩ = some (.string (bs (majL n st v)))
theorem Ent.below {w w' : World} {u : Value} {n f t : Nat} (h : Ent w u n f t) (hb : Below w.heap.size w w') : Ent w' u n f t := by
  unfold Ent at *
  by_cases h0 : n = 0
  · rw [if_pos h0] at *; exact h
  · rw [if_neg h0] at *
    obtain ⟨g, cap, hu, h1, h2, h3, c0, c1, c2⟩ := h
    exact ⟨g, cap, hu, h1, h2, Nat.lt_of_lt_of_le h3 hb.size, (hb.cell (p := ⟨g, 0, none⟩) h3).trans c0, (hb.cell (p := ⟨g, 1, none⟩) h3).trans c1, (hb.cell (p := ⟨g, 2, none⟩) h3).trans c2⟩
theorem PSeen.below {W W' : World} {A1 A2 n st : Nat} {v : Int} (h : PSeen W A1 A2 n st v) (hb : Below W.heap.size W W') : PSeen W' A1 A2 n st v := by
  obtain ⟨⟨u, h1, h2⟩, h3⟩ := h
  exact ⟨⟨u, (hb.cell (World.block_lt_of_cell? W _ h1)).trans h1, h2.below hb⟩, (hb.cell (World.block_lt_of_cell? W _ h3)).trans h3⟩

set_option maxRecDepth 100000 in
set_option maxHeartbeats 1000000 in
theorem parts1_in (fu l A1 A2 n st : Nat) (hfu : 1 ≤ fu) (v : Int) (hn : n ≤ 90) (hst : st ≤ 300) (hv0 : -9223372036854775808 ≤ v) (hv1 : v ≤ 9223372036854775807)
    (J Jx : List Unit → World → Prop) (W : World)
    (hJ : AbidesFrom W.heap.size J)
    (hY : ∀ pre x W1, J pre W1 → pre.length < (partL n).length → YieldAt Fence.wide (fu - 1) Try.prog l #[.int .i64 7, .string (bs (encL n st v))] W1 fun e W' =>
      (e = .returned (.bool true) ∧ J (pre ++ [x]) W' ∧ True) ∨ (e = .returned (.bool false) ∧ Jx (pre ++ [x]) W'))
    (hS : PSeen W A1 A2 n st v) (h0 : J [] W) :
    CallsIn Fence.wide fu Try.prog 55 #[.func (.yield l) #[] #[], .pointer (some ⟨A1, 0, none⟩), .pointer (some ⟨A2, 0, none⟩)] W fun e W' =>
      (∃ v, e = .returned v) ∧ ((∃ ys, ys = partL n ∧ J ys W') ∨ (∃ pre, pre <+: partL n ∧ Jx pre W')) := by
  have HS := Lib.hid hS
  have HJ := Lib.hid hJ
  have HY := Lib.hid hY
  have H0 := Lib.hid h0
  obtain ⟨⟨u, c0, hu⟩, c1⟩ := hS
  clear hJ hY h0
  by_cases hz : n = 0
  · unfold Ent at hu
    rw [if_pos hz] at hu
    subst hu
    have HP := Lib.hid (show partL n = [] by unfold partL; rw [if_pos hz])
    rw [HP.out]
    clear hz HY
    generalize majL n st v = S at *
    refine callsIn_of_wp Try.func55 rfl trivial ?_ rfl
    simp only [Try.ntmps55, List.size_toArray, List.length_cons, List.length_nil, Nat.reduceAdd, Nat.reduceSub, Array.replicate_succ, Array.replicate_zero, List.push_toArray, List.append_toArray, List.nil_append, List.cons_append]
    gi_wp2
    refine wpIn_loop_rounds 1 ?_
    rw [roundsIn_succ]
    gi_wp2
    go_end0
    exact ⟨⟨_, rfl⟩, .inl ⟨_, rfl, H0.out⟩⟩
  · unfold Ent at hu
    rw [if_neg hz] at hu
    obtain ⟨g, cap, rfl, hc1, hc2, hgl, d0, d1, d2⟩ := hu
    have HP := Lib.hid (show partL n = [()] by unfold partL; rw [if_neg hz])
    have hRun : ∀ w' : World, (Instr.sliceAt 9 (.string (bs (majL n st v))) (some (.int .i64 (majH n st v).length)) (some (.int .i64 ((majH n st v).length + (encL n st v).length : Nat))) none).run Try.prog w' = .ok (.string (bs (encL n st v))) w' := by
      intro w'
      have hm : majL n st v = majH n st v ++ encL n st v := by unfold majL; rw [if_neg hz]
      rw [smid_run _ _ _ (by omega) (by rw [hm, List.length_append]; exact Nat.le_refl _), hm, drop_len, List.take_of_length_le (by omega)]
    rw [HP.out] at HY ⊢
    clear HP HS
    generalize (majH n st v).length + (encL n st v).length = t at *
    generalize (majH n st v).length = f at *
    generalize encL n st v = C at *
    generalize majL n st v = S at *
    refine callsIn_of_wp Try.func55 rfl trivial ?_ rfl
    simp only [Try.ntmps55, List.size_toArray, List.length_cons, List.length_nil, Nat.reduceAdd, Nat.reduceSub, Array.replicate_succ, Array.replicate_zero, List.push_toArray, List.append_toArray, List.nil_append, List.cons_append]
    gi_wp2
    refine wpIn_loop_rounds 2 ?_
    rw [roundsIn_succ]
    have hgne : g < W.heap.size := hgl
    have hA2 := World.block_lt_of_cell? W _ c1
    gi_wp2
    have hbn : Below W.heap.size W ((W.alloc (.cells #[.int .i64 7, .int .i64 f, .int .i64 t] 112)).drew) := ((Below.refl _ _).alloc (Nat.le_refl _) _).drew
    obtain ⟨fn, tmps, assign, body, hy, hR⟩ := HY.out [] () _ (HJ.out _ _ _ none H0.out (below_grown hbn) (by simp)) (by simp)
    have hbr := Lib.hid (show RoundIn Fence.wide (fu - 1) Try.prog l fn tmps assign body _ (fun e W' => ∃ β : Bool, e = .returned (.bool β) ∧ ((β = true ∧ J [()] W') ∨ (β = false ∧ Jx [()] W'))) from hR.mono (by
        rintro e W3 (⟨rfl, h1, h2⟩ | ⟨rfl, h1⟩)
        · exact ⟨true, rfl, .inl ⟨rfl, h1⟩⟩
        · exact ⟨false, rfl, .inr ⟨rfl, h1⟩⟩))
    clear hR
    refine wpIn_mono (Q := Exit.then (fun a' W3 => ∃ β : Bool, ((β = true ∧ J [()] W3) ∨ (β = false ∧ Jx [()] W3)) ∧
      a' = { tmps := #[.func (.yield l) #[] #[], .pointer (some ⟨A1, 0, none⟩), .pointer (some ⟨A2, 0, none⟩), undef, undef, .pointer (some ⟨W.heap.size, 0, none⟩), .slice (some ⟨g, 0, none⟩) 1 cap, .int .i64 1, .int .i64 0, .bool true,
        .pointer (some ⟨g, 0, none⟩), .agg #[.int .i64 7, .int .i64 f, .int .i64 t], .func (.yield l) #[] #[], .pointer (some ⟨W.heap.size, 0, none⟩), .int .i64 7, .string (bs S), .pointer (some ⟨W.heap.size, 1, none⟩), .int .i64 f, .pointer (some ⟨W.heap.size, 2, none⟩), .int .i64 t,
        .string (bs C), .bool β, .bool (!β), undef], defers := [] }) (fun _ _ _ => False)) ?_ ?_
    · gi_region_with (refine hbr.out.mono ?_; rintro e W3 ⟨β, rfl, h3⟩)
      all_goals exact ⟨β, h3, rfl⟩
    · intro e a' W3 hE
      cases e <;> first | exact hE.elim | skip
      obtain ⟨β, h3, rfl⟩ := hE
      rcases h3 with ⟨rfl, h3⟩ | ⟨rfl, h3⟩
      · have H3 := Lib.hid h3
        clear h3
        gi_wp2
        rw [roundsIn_succ]
        gi_wp2
        go_end0
        exact ⟨⟨_, rfl⟩, .inl ⟨_, rfl, H3.out⟩⟩
      · have H3 := Lib.hid h3
        clear h3
        gi_wp2
        refine bodyPost_ret (results_none rfl _ _ _) rfl ?_
        exact ⟨⟨_, rfl⟩, .inr ⟨_, List.prefix_refl _, H3.out⟩⟩

theorem parts_stops (fu A1 A2 n st : Nat) (hfu : 1 ≤ fu) (v : Int) (hn : n ≤ 90) (hst : st ≤ 300) (hv0 : -9223372036854775808 ≤ v) (hv1 : v ≤ 9223372036854775807)
    (w : World) (hS : PSeen w A1 A2 n st v) :
    SeqStopsK Fence.wide fu Try.prog 55 #[.pointer (some ⟨A1, 0, none⟩), .pointer (some ⟨A2, 0, none⟩)] (fun _ : Unit => #[.int .i64 7, .string (bs (encL n st v))]) (fun _ _ => True) (fun ys => ys = partL n) (fun pre => pre <+: partL n) (partL n).length w :=
  fun l J Jx W hW hJ _ hY h0 =>
    parts1_in fu l A1 A2 n st hfu v hn hst hv0 hv1 J Jx W hJ hY (hS.below hW) h0

end Go.Proofs.Ytnjcelilljniaaa
