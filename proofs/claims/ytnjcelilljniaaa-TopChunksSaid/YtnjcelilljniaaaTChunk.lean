/-
  slices.Chunk of rows, by sixteen: its function value hands out the blocks.
-/
import Derived.Test.YtnjcelilljniaaaTRunP
import Derived.Lib.MinMax
namespace Go.Proofs.Ytnjcelilljniaaa
open Go.RowKit Go.Shelf

attribute [local go_sem] Oper.semAt_some

/-- What a range over chunks must keep: the two boxes that the iterator has captured. -/
def KeepB (B : Nat) (W W' : World) : Prop := W.heap.size ≤ W'.heap.size ∧ W'.heap[B]? = W.heap[B]? ∧ W'.heap[B + 1]? = W.heap[B + 1]?
theorem KeepB.refl (B : Nat) (W : World) : KeepB B W W := ⟨Nat.le_refl _, rfl, rfl⟩
theorem KeepB.trans {B : Nat} {a b c : World} (h : KeepB B a b) (k : KeepB B b c) : KeepB B a c := ⟨Nat.le_trans h.1 k.1, k.2.1.trans h.2.1, k.2.2.trans h.2.2⟩
theorem KeepB.own {B : Nat} {a b : World} (h : Below a.heap.size a b) (h1 : B + 1 < a.heap.size) : KeepB B a b := ⟨h.size, h.block B (by omega), h.block (B + 1) h1⟩
theorem KeepB.putObj {B : Nat} {w : World} (hN : B + 1 < w.heap.size) (W : World) (l : Nat) (o o' : Obj) (hl : w.heap.size ≤ l) (h : W.heap[l]? = some o) (_ : o.isCells = false) (_ : o.isWalk = false) : KeepB B W (W.putObj l o') := by
  have hlt := lt_of_heap h
  exact ⟨(grownBy_putObj' W l o').size, (grownBy_putObj' W l o').block B (by omega) (fun e => by cases e; omega), (grownBy_putObj' W l o').block (B + 1) (by omega) (fun e => by cases e; omega)⟩

/-- What the iterator has captured. -/
def CSeen (w : World) (B : Nat) (s : Value) : Prop := w.heap[B]? = some (.cells #[s] 23 (0, 0)) ∧ w.heap[B + 1]? = some (.cells #[.int .i64 16] 3 (0, 0))
theorem CSeen.keep {w w' : World} {B : Nat} {s : Value} (h : CSeen w B s) (k : KeepB B w w') : CSeen w' B s := ⟨k.2.1.trans h.1, k.2.2.trans h.2⟩

set_option maxRecDepth 100000 in
theorem chunk_any (a : Option Addr) (n cap : Nat) (w : World) :
    Calls Try.prog 31 #[.slice a n cap, .int .i64 16] w fun e w' =>
      e = .returned (.func (.func 53) #[] #[.pointer (some ⟨w.heap.size, 0, none⟩), .pointer (some ⟨w.heap.size + 1, 0, none⟩)]) ∧ w' = (w.alloc (.cells #[.slice a n cap] 23)).alloc (.cells #[.int .i64 16] 3) := by
  go_enter Try.func31, Try.ntmps31
  go_wp2_with fail
  go_ret
  exact ⟨rfl, rfl⟩

/-- The j-th chunk, as a value. -/
def chV (a : Option Addr) (n j : Nat) : Value := .slice (a.map (·.add (16 * j * 3))) (chN n j) (chN n j)
set_option maxRecDepth 100000 in
theorem ch_run (b off cap n i m : Nat) (h0 : 0 < m) (h1 : i + m ≤ cap) (w' : World) :
    (Instr.sliceAt 23 (.slice (some ⟨b, off, none⟩) n cap) (some (.int .i64 i)) (some (.int .i64 ((i : Int) + (m : Int)))) (some (.int .i64 ((i : Int) + (m : Int))))).run Try.prog w' = .ok (.slice (some ⟨b, off + i * 3, none⟩) m m) w' := by
  rw [run_sliceAt_slice _ _ _ _ _ _ rfl, run_slice_lhm _ _ _ _ _ rfl _ _ _ _ _ _ (by omega) (by omega) (by omega) (by omega)]
  have e1 : ((i : Int) + (m : Int)).toNat = i + m := by omega
  have e2 : ((i : Int)).toNat = i := by omega
  rw [e1, e2]
  show Result.ok (Value.slice (if i + m = i then some ⟨b, off, none⟩ else _) (i + m - i) (i + m - i)) w' = _
  rw [if_neg (by omega), show i + m - i = m by omega]
  simp [Addr.add_lit]
  rfl
set_option maxRecDepth 100000 in
theorem ch_tail (b off cap n i : Nat) (h1 : i < n) (h2 : n ≤ cap) (w' : World) :
    (Instr.sliceAt 23 (.slice (some ⟨b, off, none⟩) n cap) (some (.int .i64 i)) none none).run Try.prog w' = .ok (.slice (some ⟨b, off + i * 3, none⟩) (n - i) (cap - i)) w' := by
  rw [run_sliceAt_slice _ _ _ _ _ _ rfl, run_slice_l _ _ _ _ _ rfl _ _ (by omega) (by omega)]
  have e2 : ((i : Int)).toNat = i := by omega
  rw [e2]
  show Result.ok (Value.slice (if cap = i then some ⟨b, off, none⟩ else _) (n - i) (cap - i)) w' = _
  rw [if_neg (by omega)]
  simp [Addr.add_lit]
  rfl

/-- The first k blocks. -/
def blks (m : Nat) : List (Fin m) := List.ofFn fun i => i
theorem blks_len (m : Nat) : (blks m).length = m := by simp [blks]
theorem blks_val (m : Nat) : (blks m).map (fun i => i.1) = List.range m := by
  refine List.ext_getElem (by simp [blks]) fun i h1 h2 => ?_
  simp [blks]
theorem blks_take {m k : Nat} (h : k < m) : (blks m).take (k + 1) = (blks m).take k ++ [⟨k, h⟩] := by
  rw [List.take_add_one, List.getElem?_eq_getElem (by rw [blks_len]; exact h)]
  simp [blks]
theorem blks_take_len {m k : Nat} (h : k ≤ m) : ((blks m).take k).length = k := by rw [List.length_take, blks_len]; omega

set_option maxRecDepth 100000 in
set_option maxHeartbeats 4000000 in
theorem chunk1_in (fu l B n cap : Nat) (a : Option Addr) (ha : n = 0 ∨ ∃ b off, a = some ⟨b, off, none⟩) (hfu : 1 ≤ fu) (hn : n ≤ 1000) (hc : n ≤ cap) (hcm : cap ≤ 9223372036854775807)
    (J Jx : List (Fin (nBlk n)) → World → Prop) (W : World)
    (hJ : AbidesFrom W.heap.size J)
    (hY : ∀ pre x W1, J pre W1 → pre.length < nBlk n → YieldAt Fence.wide (fu - 1) Try.prog l #[chV a n x.1] W1 fun e W' =>
      (e = .returned (.bool true) ∧ J (pre ++ [x]) W' ∧ KeepB B W1 W') ∨ (e = .returned (.bool false) ∧ Jx (pre ++ [x]) W'))
    (hS : CSeen W B (.slice a n cap)) (h0 : J [] W) :
    CallsIn Fence.wide fu Try.prog 53 #[.func (.yield l) #[] #[], .pointer (some ⟨B, 0, none⟩), .pointer (some ⟨B + 1, 0, none⟩)] W fun e W' =>
      (∃ v, e = .returned v) ∧ ((∃ ys, ys = blks (nBlk n) ∧ J ys W') ∨ (∃ pre, pre <+: blks (nBlk n) ∧ Jx pre W')) := by
  have HS := Lib.hid hS
  have HJ := Lib.hid hJ
  have HY := Lib.hid hY
  have hBl : B + 1 < W.heap.size := lt_of_heap hS.2
  clear hS hJ hY
  refine callsIn_of_wp Try.func53 rfl trivial ?_ rfl
  simp only [Try.ntmps53, List.size_toArray, List.length_cons, List.length_nil, Nat.reduceAdd, Nat.reduceSub, Array.replicate_succ, Array.replicate_zero, List.push_toArray, List.append_toArray, List.nil_append, List.cons_append]
  gi_wp2
  gi_loopw [4] (fun i wr => ∃ k : Nat, k ≤ nBlk n ∧ i = .int .i64 ((16 * k : Nat) : Int) ∧ J ((blks (nBlk n)).take k) wr ∧ KeepB B W wr)
    (fun i wr => n + 16 - (intOf i).toNat)
  case atStart => exact ⟨0, Nat.zero_le _, rfl, h0, KeepB.refl _ _⟩
  case round =>
    obtain ⟨k, hk, rfl, hJs, hKB⟩ := hrel
    have HJs := Lib.hid hJs
    have HB := Lib.hid hKB
    have HS1 := Lib.hid (HS.out.keep hKB)
    have hBr : B + 1 < wr.heap.size := Nat.lt_of_lt_of_le hBl hKB.1
    clear hJs hKB h0
    have c0 : wr.cell? ⟨B, 0, none⟩ = some (.slice a n cap) := by rw [cell_of_row wr _ _ _ _ _ HS1.out.1]; rfl
    have c1 : wr.cell? ⟨B + 1, 0, none⟩ = some (.int .i64 16) := by rw [cell_of_row wr _ _ _ _ _ HS1.out.2]; rfl
    have HKn := Lib.hid (nBlk_lt (n := n) (j := k))
    by_cases hlt : 16 * k < n
    · obtain ⟨b, off, rfl⟩ : ∃ b off, a = some ⟨b, off, none⟩ := by
        rcases ha with h | h
        · omega
        · exact h
      have hkn : k < nBlk n := HKn.out.2 hlt
      have HP := Lib.hid (chN_pos hkn)
      have HI := Lib.hid (chN_in hkn)
      have HM := Lib.hid (show min (16 : Int) ((n - 16 * k : Nat) : Int) = (chN n k : Int) by unfold chN; split <;> omega)
      have HE := Lib.hid (show chV (some ⟨b, off, none⟩) n k = .slice (some ⟨b, off + 16 * k * 3, none⟩) (chN n k) (chN n k) by simp [chV, Addr.add_lit])
      have hch := chN_le n k
      have hin := HI.out
      have hpo := HP.out
      have hmin := HM.out
      have ht := ch_tail b off cap n (16 * k) hlt hc
      have hr := ch_run b off cap n (16 * k) (chN n k) hpo (by omega)
      gi_wp2
      gi_quiet (fail)
      have hbn : Below wr.heap.size wr (wr.drewN nq) := belowN (Below.refl _ _) nq
      have hbk := Lib.hid (KeepB.own (B := B) hbn (by omega))
      obtain ⟨fn, tmps, assign, body, hy, hR⟩ := HY.out ((blks (nBlk n)).take k) ⟨k, hkn⟩ (wr.drewN nq) (HJ.out _ _ _ none HJs.out (below_grown hbn) (by simp)) (by rw [blks_take_len (by omega)]; exact hkn)
      simp only at hy
      rw [HE.out] at hy
      have HRR := Lib.hid hR
      clear hR hbn
      have d0 : (wr.drewN nq).cell? ⟨B, 0, none⟩ = some (.slice (some ⟨b, off, none⟩) n cap) := c0
      have d1 : (wr.drewN nq).cell? ⟨B + 1, 0, none⟩ = some (.int .i64 16) := c1
      gi_wp2
      refine HRR.out.mono ?_
      rintro e W3 (⟨rfl, h3, h4⟩ | ⟨rfl, h3⟩)
      · rw [← blks_take hkn] at h3
        have H3 := Lib.hid h3
        have H4 := Lib.hid (HB.out.trans (hbk.out.trans h4))
        have e1 := HS.out.keep H4.out
        have g1 : W3.cell? ⟨B + 1, 0, none⟩ = some (.int .i64 16) := by rw [cell_of_row W3 _ _ _ _ _ e1.2]; rfl
        clear h3 h4 e1 d0 d1 c0 c1
        gi_wp2
        exact ⟨⟨k + 1, by omega, by congr 1, H3.out, H4.out⟩, by simp [intOf]; omega⟩
      · rw [← blks_take hkn] at h3
        have H3 := Lib.hid h3
        clear h3
        gi_wp2
        refine bodyPost_ret (results_none rfl _ _ _) rfl ?_
        exact ⟨⟨_, rfl⟩, .inr ⟨_, List.take_prefix _ _, H3.out⟩⟩
    · have hke : k = nBlk n := by have := HKn.out; omega
      subst hke
      gi_wp2
      go_end0
      exact ⟨⟨_, rfl⟩, by
        left
        refine ⟨_, rfl, ?_⟩
        have e : (blks (nBlk n)).take (nBlk n) = blks (nBlk n) := List.take_of_length_le (by rw [blks_len]; exact Nat.le_refl _)
        rw [← e]
        exact HJs.out⟩

theorem chunk_stops (fu B n cap : Nat) (a : Option Addr) (ha : n = 0 ∨ ∃ b off, a = some ⟨b, off, none⟩) (hfu : 1 ≤ fu) (hn : n ≤ 1000) (hc : n ≤ cap) (hcm : cap ≤ 9223372036854775807) (w : World) (hS : CSeen w B (.slice a n cap)) :
    SeqStopsK Fence.wide fu Try.prog 53 #[.pointer (some ⟨B, 0, none⟩), .pointer (some ⟨B + 1, 0, none⟩)] (fun x : Fin (nBlk n) => #[chV a n x.1]) (KeepB B) (fun ys => ys = blks (nBlk n)) (fun pre => pre <+: blks (nBlk n)) (nBlk n) w :=
  fun l J Jx W hW hJ _ hY h0 =>
    chunk1_in fu l B n cap a ha hfu hn hc hcm J Jx W hJ hY ⟨(hW.block B (by have := lt_of_heap hS.2; omega)).trans hS.1, (hW.block (B + 1) (lt_of_heap hS.2)).trans hS.2⟩ h0

end Go.Proofs.Ytnjcelilljniaaa
