/-
  slices.Chunk of bytes, by 64: its function value hands out the blocks.
-/
import Derived.Test.YtheenlomlmbjaaaGreatDoorHShelf
import Derived.Test.YtheenlomlmbjaaaGreatDoorGBlock
import Derived.Test.YtheenlomlmbjaaaGreatDoorGInt
import Derived.Test.YtheenlomlmbjaaaGreatDoorTEncR
import Derived.Lib.MinMax
import Derived.Test.YtheenlomlmbjaaaGreatDoorMatch
import Derived.RangeFuncNested
import Derived.RangeFuncBound
import Derived.RangeFuncCalls
import Derived.RangeFuncLeaves
import Derived.RangeFuncBox
import Derived.OwnWalkIn
import Derived.TacticsInMore
import Derived.LoopNIn
import Derived.LoopIn
import Derived.Test.YtheenlomlmbjaaaGreatDoorFMergeZ
import Derived.Shelf.SlIter.Nil
import Derived.Shelf.SortM.Plain
import Derived.Shelf.SortM.SortNone
import Derived.Ground.GgzProg
import Derived.Ground.SlgmProg
set_option linter.unusedSimpArgs false
set_option linter.unusedVariables false
namespace Go.Proofs.YtheenlomlmbjaaaGreatDoor.Ck
open Go.RowKit Go.Shelf Go.Proofs.YtheenlomlmbjaaaGreatDoor

def chN (n j : Nat) : Nat := if 64 * j + 64 ≤ n then 64 else n - 64 * j
def nBlk (n : Nat) : Nat := (n + 63) / 64
theorem chN_le (n j : Nat) : chN n j ≤ 64 := by unfold chN; split <;> omega
theorem chN_pos {n j : Nat} (h : j < nBlk n) : 1 ≤ chN n j := by unfold chN nBlk at *; split <;> omega
theorem chN_in {n j : Nat} (h : j < nBlk n) : 64 * j + chN n j ≤ n := by unfold chN nBlk at *; split <;> omega
theorem nBlk_lt {n j : Nat} : j < nBlk n ↔ 64 * j < n := by unfold nBlk; omega

attribute [local go_sem] Oper.semAt_some

def KeepB (B : Nat) (W W' : World) : Prop := W.heap.size ≤ W'.heap.size ∧ W'.heap[B]? = W.heap[B]? ∧ W'.heap[B + 1]? = W.heap[B + 1]?
theorem KeepB.refl (B : Nat) (W : World) : KeepB B W W := ⟨Nat.le_refl _, rfl, rfl⟩
theorem KeepB.trans {B : Nat} {a b c : World} (h : KeepB B a b) (k : KeepB B b c) : KeepB B a c := ⟨Nat.le_trans h.1 k.1, k.2.1.trans h.2.1, k.2.2.trans h.2.2⟩
theorem KeepB.own {B : Nat} {a b : World} (h : Below a.heap.size a b) (h1 : B + 1 < a.heap.size) : KeepB B a b := ⟨h.size, h.block B (by omega), h.block (B + 1) h1⟩
theorem KeepB.putObj {B : Nat} {w : World} (hN : B + 1 < w.heap.size) (W : World) (l : Nat) (o o' : Obj) (hl : w.heap.size ≤ l) (h : W.heap[l]? = some o) (_ : o.isCells = false) (_ : o.isWalk = false) : KeepB B W (W.putObj l o') := by
  have hlt := lt_of_heap h
  exact ⟨(grownBy_putObj' W l o').size, (grownBy_putObj' W l o').block B (by omega) (fun e => by cases e; omega), (grownBy_putObj' W l o').block (B + 1) (by omega) (fun e => by cases e; omega)⟩

def CSeen (w : World) (B : Nat) (s : Value) : Prop := w.heap[B]? = some (.cells #[s] 22 (0, 0)) ∧ w.heap[B + 1]? = some (.cells #[.int .i64 64] 3 (0, 0))
theorem CSeen.keep {w w' : World} {B : Nat} {s : Value} (h : CSeen w B s) (k : KeepB B w w') : CSeen w' B s := ⟨k.2.1.trans h.1, k.2.2.trans h.2⟩

set_option maxRecDepth 100000 in
theorem chunk_any (a : Option Addr) (n cap : Nat) (w : World) :
    Calls Tryz.prog 365 #[.slice a n cap, .int .i64 64] w fun e w' =>
      e = .returned (.func (.func 376) #[] #[.pointer (some ⟨w.heap.size, 0, none⟩), .pointer (some ⟨w.heap.size + 1, 0, none⟩)]) ∧ w' = (w.alloc (.cells #[.slice a n cap] 22)).alloc (.cells #[.int .i64 64] 3) := by
  go_enter Tryz.func365, Tryz.ntmps365
  go_wp2_with fail
  go_ret
  exact ⟨rfl, rfl⟩

def chV (a : Option Addr) (n j : Nat) : Value := .slice (a.map (·.add (64 * j))) (chN n j) (chN n j)
set_option maxRecDepth 100000 in
theorem ch_run (b off cap n i m : Nat) (h0 : 0 < m) (h1 : i + m ≤ cap) (w' : World) :
    (Instr.sliceAt 22 (.slice (some ⟨b, off, none⟩) n cap) (some (.int .i64 i)) (some (.int .i64 ((i : Int) + (m : Int)))) (some (.int .i64 ((i : Int) + (m : Int))))).run Tryz.prog w' = .ok (.slice (some ⟨b, off + i, none⟩) m m) w' := by
  rw [run_sliceAt_slice _ _ _ _ _ _ rfl, run_slice_lhm _ _ _ _ _ rfl _ _ _ _ _ _ (by omega) (by omega) (by omega) (by omega)]
  have e1 : ((i : Int) + (m : Int)).toNat = i + m := by omega
  have e2 : ((i : Int)).toNat = i := by omega
  rw [e1, e2]
  show Result.ok (Value.slice (if i + m = i then some ⟨b, off, none⟩ else _) (i + m - i) (i + m - i)) w' = _
  rw [if_neg (by omega), show i + m - i = m by omega]
  simp [Addr.add_lit]
  exact Nat.mul_one i
set_option maxRecDepth 100000 in
theorem ch_tail (b off cap n i : Nat) (h1 : i < n) (h2 : n ≤ cap) (w' : World) :
    (Instr.sliceAt 22 (.slice (some ⟨b, off, none⟩) n cap) (some (.int .i64 i)) none none).run Tryz.prog w' = .ok (.slice (some ⟨b, off + i, none⟩) (n - i) (cap - i)) w' := by
  rw [run_sliceAt_slice _ _ _ _ _ _ rfl, run_slice_l _ _ _ _ _ rfl _ _ (by omega) (by omega)]
  have e2 : ((i : Int)).toNat = i := by omega
  rw [e2]
  show Result.ok (Value.slice (if cap = i then some ⟨b, off, none⟩ else _) (n - i) (cap - i)) w' = _
  rw [if_neg (by omega)]
  simp [Addr.add_lit]
  exact Nat.mul_one i

def blks (m : Nat) : List (Fin m) := List.ofFn fun i => i
theorem blks_len (m : Nat) : (blks m).length = m := by simp [blks]
theorem blks_take {m k : Nat} (h : k < m) : (blks m).take (k + 1) = (blks m).take k ++ [⟨k, h⟩] := by
  rw [List.take_add_one, List.getElem?_eq_getElem (by rw [blks_len]; exact h)]
  simp [blks]
theorem blks_take_len {m k : Nat} (h : k ≤ m) : ((blks m).take k).length = k := by rw [List.length_take, blks_len]; omega

set_option maxRecDepth 100000 in
set_option maxHeartbeats 4000000 in
theorem chunk1_in (fu l B n cap : Nat) (a : Option Addr) (ha : n = 0 ∨ ∃ b off, a = some ⟨b, off, none⟩) (hfu : 1 ≤ fu) (hn : n ≤ 100000) (hc : n ≤ cap) (hcm : cap ≤ 9223372036854775807)
    (J Jx : List (Fin (nBlk n)) → World → Prop) (W : World)
    (hJ : AbidesFrom W.heap.size J)
    (hY : ∀ pre x W1, J pre W1 → pre.length < nBlk n → YieldAt Fence.wide (fu - 1) Tryz.prog l #[chV a n x.1] W1 fun e W' =>
      (e = .returned (.bool true) ∧ J (pre ++ [x]) W' ∧ KeepB B W1 W') ∨ (e = .returned (.bool false) ∧ Jx (pre ++ [x]) W'))
    (hS : CSeen W B (.slice a n cap)) (h0 : J [] W) :
    CallsIn Fence.wide fu Tryz.prog 376 #[.func (.yield l) #[] #[], .pointer (some ⟨B, 0, none⟩), .pointer (some ⟨B + 1, 0, none⟩)] W fun e W' =>
      (∃ v, e = .returned v) ∧ ((∃ ys, ys = blks (nBlk n) ∧ J ys W') ∨ (∃ pre, pre <+: blks (nBlk n) ∧ Jx pre W')) := by
  have HS := Lib.hid hS
  have HJ := Lib.hid hJ
  have HY := Lib.hid hY
  have hBl : B + 1 < W.heap.size := lt_of_heap hS.2
  clear hS hJ hY
  refine callsIn_of_wp Tryz.func376 rfl trivial ?_ rfl
  simp only [Tryz.ntmps376, List.size_toArray, List.length_cons, List.length_nil, Nat.reduceAdd, Nat.reduceSub, Array.replicate_succ, Array.replicate_zero, List.push_toArray, List.append_toArray, List.nil_append, List.cons_append]
  gi_wp2
  gi_loopw [4] (fun i wr => ∃ k : Nat, k ≤ nBlk n ∧ i = .int .i64 ((64 * k : Nat) : Int) ∧ J ((blks (nBlk n)).take k) wr ∧ KeepB B W wr)
    (fun i wr => n + 64 - (intOf i).toNat)
  case atStart => exact ⟨0, Nat.zero_le _, rfl, h0, KeepB.refl _ _⟩
  case round =>
    obtain ⟨k, hk, rfl, hJs, hKB⟩ := hrel
    have HJs := Lib.hid hJs
    have HB := Lib.hid hKB
    have HS1 := Lib.hid (HS.out.keep hKB)
    have hBr : B + 1 < wr.heap.size := Nat.lt_of_lt_of_le hBl hKB.1
    clear hJs hKB h0
    have c0 : wr.cell? ⟨B, 0, none⟩ = some (.slice a n cap) := by rw [cell_of_row wr _ _ _ _ _ HS1.out.1]; rfl
    have c1 : wr.cell? ⟨B + 1, 0, none⟩ = some (.int .i64 64) := by rw [cell_of_row wr _ _ _ _ _ HS1.out.2]; rfl
    have HKn := Lib.hid (nBlk_lt (n := n) (j := k))
    by_cases hlt : 64 * k < n
    · obtain ⟨b, off, rfl⟩ : ∃ b off, a = some ⟨b, off, none⟩ := by
        rcases ha with h | h
        · omega
        · exact h
      have hkn : k < nBlk n := HKn.out.2 hlt
      have HP := Lib.hid (chN_pos hkn)
      have HI := Lib.hid (chN_in hkn)
      have HM := Lib.hid (show min (64 : Int) ((n - 64 * k : Nat) : Int) = (chN n k : Int) by unfold chN; split <;> omega)
      have HE := Lib.hid (show chV (some ⟨b, off, none⟩) n k = .slice (some ⟨b, off + 64 * k, none⟩) (chN n k) (chN n k) by simp [chV, Addr.add_lit])
      have hch := chN_le n k
      have hin := HI.out
      have hpo := HP.out
      have hmin := HM.out
      have ht := ch_tail b off cap n (64 * k) hlt hc
      have hr := ch_run b off cap n (64 * k) (chN n k) hpo (by omega)
      gi_wp2
      gi_quiet (fail)
      have hbn : Below wr.heap.size wr (wr.drewN nq) := belowN (Below.refl _ _) nq
      have hbk := Lib.hid (KeepB.own (B := B) hbn (by omega))
      obtain ⟨fn, tmps, assign, body, hy, hR⟩ := HY.out ((blks (nBlk n)).take k) ⟨k, hkn⟩ (wr.drewN nq) (HJ.out _ _ _ none HJs.out (below_grown hbn) (by simp)) (by rw [blks_take_len (by omega)]; exact hkn)
      simp only at hy
      rw [HE.out] at hy
      have HRR := Lib.hid hR
      clear hR hbn
      have d0 : (wr.drewN nq).cell? ⟨B, 0, none⟩ = some (.slice (some ⟨b, off, none⟩) n cap) := c0
      have d1 : (wr.drewN nq).cell? ⟨B + 1, 0, none⟩ = some (.int .i64 64) := c1
      gi_wp2
      refine HRR.out.mono ?_
      rintro e W3 (⟨rfl, h3, h4⟩ | ⟨rfl, h3⟩)
      · rw [← blks_take hkn] at h3
        have H3 := Lib.hid h3
        have H4 := Lib.hid (HB.out.trans (hbk.out.trans h4))
        have e1 := HS.out.keep H4.out
        have g1 : W3.cell? ⟨B + 1, 0, none⟩ = some (.int .i64 64) := by rw [cell_of_row W3 _ _ _ _ _ e1.2]; rfl
        clear h3 h4 e1 d0 d1 c0 c1
        gi_wp2
        exact ⟨⟨k + 1, by omega, by congr 1, H3.out, H4.out⟩, by simp [intOf]; omega⟩
      · rw [← blks_take hkn] at h3
        have H3 := Lib.hid h3
        clear h3
        gi_wp2
        refine bodyPost_ret (results_none rfl _ _ _) rfl ?_
        exact ⟨⟨_, rfl⟩, .inr ⟨_, List.take_prefix _ _, H3.out⟩⟩
    · have hke : k = nBlk n := by have := HKn.out; omega
      subst hke
      gi_wp2
      go_end0
      exact ⟨⟨_, rfl⟩, by
        left
        refine ⟨_, rfl, ?_⟩
        have e : (blks (nBlk n)).take (nBlk n) = blks (nBlk n) := List.take_of_length_le (by rw [blks_len]; exact Nat.le_refl _)
        rw [← e]
        exact HJs.out⟩

theorem chunk_stops (fu B n cap : Nat) (a : Option Addr) (ha : n = 0 ∨ ∃ b off, a = some ⟨b, off, none⟩) (hfu : 1 ≤ fu) (hn : n ≤ 100000) (hc : n ≤ cap) (hcm : cap ≤ 9223372036854775807) (w : World) (hS : CSeen w B (.slice a n cap)) :
    SeqStopsK Fence.wide fu Tryz.prog 376 #[.pointer (some ⟨B, 0, none⟩), .pointer (some ⟨B + 1, 0, none⟩)] (fun x : Fin (nBlk n) => #[chV a n x.1]) (KeepB B) (fun ys => ys = blks (nBlk n)) (fun pre => pre <+: blks (nBlk n)) (nBlk n) w :=
  fun l J Jx W hW hJ _ hY h0 =>
    chunk1_in fu l B n cap a ha hfu hn hc hcm J Jx W hJ hY ⟨(hW.block B (by have := lt_of_heap hS.2; omega)).trans hS.1, (hW.block (B + 1) (lt_of_heap hS.2)).trans hS.2⟩ h0

end Go.Proofs.YtheenlomlmbjaaaGreatDoor.Ck

namespace Go.Proofs.YtheenlomlmbjaaaGreatDoor
open Go.RowKit Go.Shelf

attribute [local go_sem] Oper.semAt_some

def encT (s : Bytes) : List Value := [.string (bs s)]
theorem infoStrG : (Tryz.prog.info? 9).map (fun i => (i.zero, i.size, i.bytes)) = some (some (.string (bs [])), 1, 16) := by kernel_rfl
def pieceOf (s : Bytes) (i : Nat) : Bytes := (s.drop (64 * i)).take 64
theorem piece_len (s : Bytes) (i : Nat) : (pieceOf s i).length = Ck.chN s.length i := by
  unfold pieceOf Ck.chN
  rw [List.length_take, List.length_drop]
  split <;> omega
theorem Ck.CSeen.own {X Y : World} {B : Nat} {s : Value} {row : Option Nat} (h : Ck.CSeen X B s) (hg : X.grownBy Y row) (hr : ∀ r, row = some r → ∃ o : Obj, X.heap[r]? = some o ∧ o.isCells = false) : Ck.CSeen Y B s :=
  ⟨(hg.block B (lt_of_heap h.1) (fun e => by obtain ⟨o, ho, hc⟩ := hr _ e.symm; rw [h.1] at ho; cases ho; cases hc)).trans h.1, (hg.block (B + 1) (lt_of_heap h.2) (fun e => by obtain ⟨o, ho, hc⟩ := hr _ e.symm; rw [h.2] at ho; cases ho; cases hc)).trans h.2⟩
theorem piece_run {s : Bytes} {w0 W : World} {Kb i : Nat} (h : W.heap[Kb]? = some (rowB w0 s)) (hi : i < Ck.nBlk s.length) (c : Nat) :
    (convert 22 9 (.slice (some ⟨Kb, 64 * i, none⟩) (Ck.chN s.length i) c)).run Tryz.prog W = .ok (.string (bs (pieceOf s i))) W := by
  rw [← piece_len]
  refine run_convert_bytes_back W _ _ 5 _ _ (pieceOf s i) Tryz.underlying22 Tryz.underlying5 Tryz.underlying9 ?_
  intro j hj
  have hj' := hj
  rw [piece_len] at hj'
  have h2 := Ck.chN_in hi
  rw [Addr.add_lit, rowB_cell h (i := 64 * i + j) (by omega)]
  congr 2
  rw [byteAt_lt (by omega)]
  simp [pieceOf]

def ChI (Bx Kb n₀ : Nat) (s : Bytes) (sv : Value) (w w1 w3 : World) (pre : List (Fin (Ck.nBlk s.length))) (W : World) : Prop :=
  ((∃ v, Boxed W Bx 36 v ∧ W.ownsRow n₀ 9 1 v pre.length (pre.flatMap fun i => encT (pieceOf s i.1)) ∧ True) ∧ Ck.CSeen W (Kb + 1) sv ∧ W.heap[Kb]? = some (rowB w1 s)) ∧ (Below w.heap.size w W ∧ w3.heap.size ≤ W.heap.size)
theorem row_own {X Y : World} {B : Nat} {c : Array Value} {t : TypeId} {z : Nat × Nat} {row : Option Nat} (h : X.heap[B]? = some (.cells c t z)) (hg : X.grownBy Y row) (hr : ∀ r, row = some r → ∃ o : Obj, X.heap[r]? = some o ∧ o.isCells = false) : Y.heap[B]? = some (.cells c t z) :=
  (hg.block B (lt_of_heap h) (fun e => by obtain ⟨o, ho, hc⟩ := hr _ e.symm; rw [h] at ho; cases ho; cases hc)).trans h
theorem chI_own (Bx Kb n₀ : Nat) (s : Bytes) (sv : Value) (w w1 w3 : World) (hw : w.heap.size ≤ w3.heap.size) : OwnFrom w3.heap.size (ChI Bx Kb n₀ s sv w w1 w3) :=
  OwnFrom.and (Own.from (fun pre X Y row hs hg hr => ⟨holdsRow_own n₀ Bx 36 9 1 (fun pre : List (Fin (Ck.nBlk s.length)) => pre.length) (fun pre => pre.flatMap fun i => encT (pieceOf s i.1)) (fun _ _ => True) pre X Y row hs.1 hg hr, hs.2.1.own hg hr, row_own hs.2.2 hg hr⟩) _)
    (OwnFrom.and (ownFrom_below (Nat.le_refl _) hw) (fun _ X Y row hs hg _ => Nat.le_trans hs hg.size))

theorem app_keep {W w6 : World} {N Bo e s n k : Nat} {u v : Value} {xs : List Value} {o : Obj} (hr : W.ownsRow N e s u n xs) (hg : (W.alloc o).grownBy w6 u.ownBlock) (h1 : k < N) (h2 : k ≠ Bo) (h3 : k < W.heap.size) : (w6.setCell ⟨Bo, 0, none⟩ v).heap[k]? = W.heap[k]? := by
  rw [Below.heap_setCell _ _ _ k h2]
  rw [hg.block k (by simp; omega) ?_, Below.heap_alloc _ _ _ h3]
  intro e
  rcases hr.2 with ⟨rfl, _⟩ | ⟨g, cap, cur, rfl, hgb, _⟩
  · simp [Value.ownBlock] at e
  · simp [Value.ownBlock] at e; omega

set_option maxRecDepth 100000 in
set_option maxHeartbeats 4000000 in
theorem chunks_any (s : Bytes) (w : World) (hs : s.length ≤ 10000) :
    Calls Tryz.prog 343 #[.string (bs s)] w fun e w' => ∃ v cs, e = .returned v ∧ OwnR 9 1 encT w' w.heap.size v cs ∧ cs.length = nch s.length ∧ (∀ c ∈ cs, c.length ≤ 64) ∧ Below w.heap.size w w' := by
  have hcv := bytesOf_run s (w.alloc (.cells #[.slice none 0 0] 36))
  refine (callsIn_wide (n := 5)).1 ?_
  refine callsIn_of_wp_marks Tryz.func343 rfl trivial ?_ rfl
  simp only [Tryz.ntmps343, List.size_toArray, List.length_cons, List.length_nil, Nat.reduceAdd, Nat.reduceSub, Array.replicate_succ, Array.replicate_zero, List.push_toArray, List.append_toArray, List.nil_append, List.cons_append]
  refine (wpIn_wide (n := 5)).2 ?_
  go_wp2_with fail
  have hc1 := grownCap_ge (w.alloc (.cells #[.slice none 0 0] 36)) s.length 0 5
  have hc2 := grownCap_le_maxLen (w.alloc (.cells #[.slice none 0 0] 36)) s.length 0 5 (by simp only [maxLen]; omega)
  rw [show grownCap (w.alloc (.cells #[.slice none 0 0] 36)) s.length 0 5 = capB (w.alloc (.cells #[.slice none 0 0] 36)) s from rfl] at hc1 hc2
  generalize hwa : (w.alloc (.cells #[.slice none 0 0] 36)) = wa at *
  have hsz : wa.heap.size = w.heap.size + 1 := by rw [← hwa]; simp
  have hbx : Boxed wa w.heap.size 36 (.slice none 0 0) := by rw [← hwa]; exact Boxed.new _ _ _
  have hba : Below w.heap.size w wa := by rw [← hwa]; exact (Below.refl _ _).alloc (Nat.le_refl _) _
  clear hwa hcv
  generalize hcp : capB wa s = cap at *
  refine (Ck.chunk_any _ _ _ _).mono ?_
  rintro e w3 ⟨rfl, h3⟩
  have hrw : ∃ R : Obj, R = rowB wa s := ⟨_, rfl⟩
  obtain ⟨R, hR⟩ := hrw
  rw [← hR, ← hsz] at h3
  have hsz3 : w3.heap.size = wa.heap.size + 3 := by rw [h3]; simp
  have hk0 : w3.heap[wa.heap.size]? = some R := by rw [h3]; exact heap_old (heap_old (heap_alloc_new _ _))
  have hk1 : w3.heap[wa.heap.size + 1]? = some (.cells #[.slice (some ⟨wa.heap.size, 0, none⟩) s.length cap] 22 (0, 0)) := by
    rw [h3]; refine heap_old ?_
    have := heap_alloc_new ((wa.alloc R).drew) (.cells #[.slice (some ⟨wa.heap.size, 0, none⟩) s.length cap] 22)
    simpa using this
  have hk2 : w3.heap[wa.heap.size + 1 + 1]? = some (.cells #[.int .i64 64] 3 (0, 0)) := by
    rw [h3]
    have := heap_alloc_new (((wa.alloc R).drew).alloc (.cells #[.slice (some ⟨wa.heap.size, 0, none⟩) s.length cap] 22)) (.cells #[.int .i64 64] 3)
    simpa using this
  have hb3 : Below wa.heap.size wa w3 := by rw [h3]; exact ((((Below.refl _ _).alloc (by simp) _).drew).alloc (by simp) _).alloc (by simp; omega) _
  clear h3
  have e1 : ((wa.alloc R).drew).heap.size = wa.heap.size + 1 := by simp
  rw [← hR, e1, ← hsz]
  subst hR
  have HCS := Lib.hid (show Ck.CSeen w3 (wa.heap.size + 1) (.slice (some ⟨wa.heap.size, 0, none⟩) s.length cap) from ⟨hk1, hk2⟩)
  have HK0 := Lib.hid hk0
  have HB3 := Lib.hid (hba.trans (hb3.mono hba.size))
  have HBX := Lib.hid (show Boxed w3 w.heap.size 36 (.slice none 0 0) from (hb3.block _ hbx.lt).trans hbx)
  clear hk0 hk1 hk2 hb3 hba hbx
  generalize hKb : wa.heap.size = Kb at *
  clear hKb
  have HSZ := Lib.hid hsz
  clear hsz
  go_wp2_with fail
  refine (wpIn_wide (n := 5)).1 ?_
  refine wpIn_rangeFunc_ownG (F := Fence.wide) rfl (by omega) (gf := 376) (lb := #[.pointer (some ⟨Kb + 1, 0, none⟩), .pointer (some ⟨Kb + 1 + 1, 0, none⟩)]) rfl trivial (enters_of Tryz.func376 (by kernel_rfl) rfl)
    (Ck.chunk_stops 4 (Kb + 1) s.length cap (some ⟨Kb, 0, none⟩) (.inr ⟨_, _, rfl⟩) (by omega) (by omega) hc1 hc2 w3 HCS.out) (fun h k => Ck.KeepB.trans h k) (Ck.KeepB.putObj (by omega)) (Below.refl _ _) (fun _ => rfl)
    (ChI w.heap.size Kb w3.heap.size s (.slice (some ⟨Kb, 0, none⟩) s.length cap) w wa w3)
    (fun _ _ _ => False)
    (chI_own _ _ _ _ _ _ _ _ HB3.out.size)
    (fun _ _ _ _ _ hs _ _ => hs)
    ⟨⟨⟨_, HBX.out, World.ownsRow_nil _ _ _ _, trivial⟩, HCS.out, HK0.out⟩, HB3.out, Nat.le_refl _⟩
    ?a₁
    ?assign ?body ?done ?stop
  case assign =>
    intro l x W K hK
    gi_wp2
    exact hK
  case stop =>
    rintro D c pre W _ _ h _
    exact h.elim
  case body =>
    rintro l pre ⟨x, hx⟩ W ⟨⟨⟨u, hv, hrow, -⟩, hcs, hR⟩, hB, hN⟩ hlt
    have HRun := Lib.hid (piece_run hR hx (Ck.chN s.length x))
    have hrun := HRun.out
    have HCh := Lib.hid (show Ck.chV (some ⟨Kb, 0, none⟩) s.length x = .slice (some ⟨Kb, 64 * x, none⟩) (Ck.chN s.length x) (Ck.chN s.length x) by simp [Ck.chV, Addr.add_lit])
    have hc := hv.cell
    have hpl : pre.length ≤ 10000 := by have : Ck.nBlk s.length ≤ 10000 := by { unfold Ck.nBlk; omega }; omega
    clear hlt
    obtain ⟨i0, hi, hz0, hz1, hz2⟩ := info_parts infoStrG
    have HRow := Lib.hid hrow
    have HV2 := Lib.hid hv
    have HBW := Lib.hid hB
    have HN := Lib.hid hN
    have HCS2 := Lib.hid hcs
    have HR2 := Lib.hid hR
    generalize hP : pieceOf s x = P at *
    have HP := Lib.hid hP
    clear hrow hv hB hN hcs hR hP
    simp only [HCh.out]
    gi_wp2_with (gi_at_builtin; refine wpListIn_append_own _ rfl (.tmp 9) (.tmp 12) 36 rfl w3.heap.size 9 i0 _ 1 16 Tryz.underlying36 hi hz0 hz1 hz2 rfl (by decide) u pre.length (pre.flatMap fun i => encT (pieceOf s i.1)) rfl (HRow.out.alloc _) ⟨W.heap.size, 0, none⟩ 1 1 [.string (bs P)] rfl rfl (World.news_of_block (heap_alloc_new ..)) (by intro u hu; simp at hu; rcases hu with rfl; rfl) (by simp only [maxLen]; omega) (by omega) (by have := HN.out; simp; omega) ?_; intro v' w6 hown' hgrow _; obtain ⟨g', cap', rfl⟩ := ownsRow_succ hown'; obtain ⟨hv1, hv2, hr2, hk2, hb6⟩ := HV2.out.appended (by decide) (ownsRow_base HRow.out HB3.out.size) HBW.out.size (Nat.le_refl _) (ownsRow_base hown' HB3.out.size) hgrow; have hc1 := hv1.cell; have hf1 := hv1.frozen)
    have hrow7 : (w6.setCell ⟨w.heap.size, 0, none⟩ (.slice (some ⟨g', 0, none⟩) (pre.length + 1) cap')).ownsRow w3.heap.size 9 1 (.slice (some ⟨g', 0, none⟩) (pre.length + 1) cap') (pre ++ [(⟨x, hx⟩ : Fin (Ck.nBlk s.length))]).length ((pre ++ [(⟨x, hx⟩ : Fin (Ck.nBlk s.length))]).flatMap fun i => encT (pieceOf s i.1)) := by
      rw [List.length_append, List.flatMap_append]
      simp only [List.flatMap_cons, List.flatMap_nil, List.append_nil, HP.out]
      exact hown'.kept (grownBy_setCell' w6 w.heap.size (.slice (some ⟨g', 0, none⟩) (pre.length + 1) cap')) (.inr (hv1.not_row (by decide) hown').symm)
    have hkp := Lib.hid (fun k (k1 : k < w3.heap.size) (k2 : k ≠ w.heap.size) => app_keep (v := .slice (some ⟨g', 0, none⟩) (pre.length + 1) cap') HRow.out hgrow k1 k2 (Nat.lt_of_lt_of_le k1 HN.out))
    have hz := HSZ.out
    have hk7 : Ck.KeepB (Kb + 1) W (w6.setCell ⟨w.heap.size, 0, none⟩ (.slice (some ⟨g', 0, none⟩) (pre.length + 1) cap')) := ⟨hb6.size, hkp.out _ (by omega) (by omega), hkp.out _ (by omega) (by omega)⟩
    exact ⟨hk2.from _, hk7, ⟨⟨_, hv2, hrow7, trivial⟩, HCS2.out.keep hk7, (hkp.out _ (by omega) (by omega)).trans HR2.out⟩, HBW.out.trans hb6, Nat.le_trans HN.out hb6.size⟩
  case done =>
    rintro D ys W hD rfl ⟨⟨⟨u, hv, hrow, -⟩, hcs, hR⟩, hB, hN⟩ hK
    have HRow := Lib.hid hrow
    have HBW := Lib.hid hB
    have HK := Lib.hid hK
    have hc := hv.cell
    clear hrow hB hN hv hcs hR
    go_wp2_with fail
    refine ⟨by simp, .inl ⟨_, _, rfl, run_takeDeferred HK.out, ?_⟩⟩
    refine ⟨_, results_tmp rfl _ _ _, u, (Ck.blks (Ck.nBlk s.length)).map (fun i => pieceOf s i.1), rfl, ?_, by rw [List.length_map, Ck.blks_len]; rfl, ?_, HBW.out.trans (belowK_b (w := w) (Nat.le_refl _) W D _ _ (by have := HB3.out.size; omega) HK.out rfl rfl)⟩
    · have h7 := ownsRow_base (b' := w.heap.size) (ownsRow_putObj HRow.out (.deferred none) HK.out rfl) HB3.out.size
      unfold OwnR
      rw [List.length_map, List.flatMap_map]
      exact h7
    · intro c hc
      obtain ⟨i, _, rfl⟩ := List.mem_map.1 hc
      exact Nat.le_trans (by rw [piece_len]; exact Ck.chN_le _ _) (Nat.le_refl _)

end Go.Proofs.YtheenlomlmbjaaaGreatDoor

namespace Go.Proofs.YtheenlomlmbjaaaGreatDoor
open Go.RowKit Go.Shelf

attribute [local go_sem] Oper.semAt_some

def KeepN (N : Nat) (A B : World) : Prop := A.heap.size ≤ B.heap.size ∧ ∀ k, k < N → k < A.heap.size → B.heap[k]? = A.heap[k]?
theorem KeepN.trans {N : Nat} {A B C : World} (h : KeepN N A B) (k : KeepN N B C) : KeepN N A C := ⟨Nat.le_trans h.1 k.1, fun i h1 h2 => (k.2 i h1 (Nat.lt_of_lt_of_le h2 h.1)).trans (h.2 i h1 h2)⟩
theorem KeepN.putObj {N : Nat} {w : World} (hN : N ≤ w.heap.size) (W : World) (l : Nat) (o o' : Obj) (hl : w.heap.size ≤ l) (h : W.heap[l]? = some o) (_ : o.isCells = false) (_ : o.isWalk = false) : KeepN N W (W.putObj l o') :=
  ⟨(grownBy_putObj' W l o').size, fun k h1 h3 => (grownBy_putObj' W l o').block k h3 (fun e => by cases e; omega)⟩

theorem boxOwn_own {β : Type} (n₀ B : Nat) (t e : TypeId) (f : β → Int) (w w3 : World) (hw : w.heap.size ≤ w3.heap.size) :
    OwnFrom w3.heap.size (fun (pre : List β) (W : World) => (∃ v, Boxed W B t v ∧ W.ownsRow n₀ e 1 v pre.length (pre.flatMap fun x => encI (f x)) ∧ True) ∧ (Below w.heap.size w W ∧ w3.heap.size ≤ W.heap.size)) :=
  OwnFrom.and (Own.from (holdsRow_own n₀ B t e 1 (fun pre : List β => pre.length) (fun pre => pre.flatMap fun x => encI (f x)) (fun _ _ => True)) _)
    (OwnFrom.and (ownFrom_below (Nat.le_refl _) hw) (fun _ X Y row hs hg _ => Nat.le_trans hs hg.size))

section
variable {α : Type} {f : α → Int} {g : Nat} {lb : Array Value} {S Sp : List α → Prop} {N : Nat}
set_option maxRecDepth 100000 in
set_option maxHeartbeats 4000000 in
theorem appendSeq_any (w w0 : World) (n0 : Nat) (eg : ∀ args w, (callFunc g args).run Tryz.prog w = .ok (.enter g args) w) (hN : N ≤ 100000) (hn0 : n0 ≤ w.heap.size) (hb0 : Below w0.heap.size w0 w) (hSp : ∀ pre, Sp pre → True)
    (hseq : SeqStopsK Fence.wide 4 Tryz.prog g lb (fun x => #[.int .i64 (f x)]) (KeepN n0) S Sp N w0) :
    Calls Tryz.prog 359 #[.slice none 0 0, .func (.func g) #[] lb] w fun e w' => ∃ v ys, e = .returned v ∧ S ys ∧ OwnR 3 1 encI w' w.heap.size v (ys.map f) ∧ Below w.heap.size w w' := by
  refine (callsIn_wide (n := 5)).1 ?_
  refine callsIn_of_wp_marks Tryz.func359 rfl trivial ?_ rfl
  simp only [Tryz.ntmps359, List.size_toArray, List.length_cons, List.length_nil, Nat.reduceAdd, Nat.reduceSub, Array.replicate_succ, Array.replicate_zero, List.push_toArray, List.append_toArray, List.nil_append, List.cons_append]
  refine (wpIn_wide (n := 5)).2 ?_
  go_wp2_with fail
  have HBX := Lib.hid (Boxed.new w 23 (.slice none 0 0))
  have HBA := Lib.hid (show Below w.heap.size w (w.alloc (.cells #[.slice none 0 0] 23)) from (Below.refl _ _).alloc (Nat.le_refl _) _)
  have HB0 := Lib.hid (hb0.trans (HBA.out.mono hb0.size))
  obtain ⟨w3, hw3⟩ : ∃ w3, w3 = w.alloc (.cells #[.slice none 0 0] 23) := ⟨_, rfl⟩
  rw [← hw3] at HBX HBA HB0 ⊢
  have hs3 : w3.heap.size = w.heap.size + 1 := by rw [hw3]; simp
  clear hw3 hb0
  refine (wpIn_wide (n := 5)).1 ?_
  refine wpIn_rangeFunc_ownG (F := Fence.wide) rfl (by omega) (gf := g) (lb := lb) rfl trivial eg
    hseq (fun h k => KeepN.trans h k) (KeepN.putObj (by omega)) HB0.out (fun _ => rfl)
    (fun (pre : List α) (W : World) => (∃ v, Boxed W w.heap.size 23 v ∧ W.ownsRow w3.heap.size 3 1 v pre.length (pre.flatMap fun x => encI (f x)) ∧ True) ∧ (Below w.heap.size w W ∧ w3.heap.size ≤ W.heap.size))
    (fun _ _ _ => False)
    (boxOwn_own _ _ _ _ _ _ _ HBA.out.size)
    (fun _ _ _ _ _ hs _ _ => hs)
    ⟨⟨_, HBX.out, World.ownsRow_nil _ _ _ _, trivial⟩, HBA.out, Nat.le_refl _⟩
    ?a₁
    ?assign ?body ?done ?stop
  case assign =>
    intro l x W K hK
    gi_wp2
    exact hK
  case stop =>
    rintro D c pre W _ _ h _
    exact h.elim
  case body =>
    rintro l pre x W ⟨⟨u, hv, hrow, -⟩, hB, hN'⟩ hlt
    have hc := hv.cell
    have hpl : pre.length ≤ 100000 := by omega
    clear hlt
    obtain ⟨i0, hi, hz0, hz1, hz2⟩ := info_parts infoInt
    have HRow := Lib.hid hrow
    have HV2 := Lib.hid hv
    have HBW := Lib.hid hB
    have HN := Lib.hid hN'
    have HSZ := Lib.hid hs3
    clear hrow hv hB hN' hs3
    generalize hX : f x = X at *
    have HX := Lib.hid hX
    clear hX
    gi_wp2_with (gi_at_builtin; refine wpListIn_append_own _ rfl (.tmp 8) (.tmp 10) 23 rfl w3.heap.size 3 i0 _ 1 8 Tryz.underlying23 hi hz0 hz1 hz2 rfl (by decide) u pre.length (pre.flatMap fun x => encI (f x)) rfl (HRow.out.alloc _) ⟨W.heap.size, 0, none⟩ 1 1 [.int .i64 X] rfl rfl (World.news_of_block (heap_alloc_new ..)) (by intro u hu; simp at hu; rcases hu with rfl; rfl) (by simp only [maxLen]; omega) (by omega) (by have := HN.out; simp; omega) ?_; intro v' w6 hown' hgrow _; obtain ⟨g', cap', rfl⟩ := ownsRow_succ hown'; obtain ⟨hv1, hv2, hr2, hk2, hb6⟩ := HV2.out.appended (by decide) (ownsRow_base HRow.out HBA.out.size) HBW.out.size (Nat.le_refl _) (ownsRow_base hown' HBA.out.size) hgrow; have hc1 := hv1.cell; have hf1 := hv1.frozen)
    have hrow7 : (w6.setCell ⟨w.heap.size, 0, none⟩ (.slice (some ⟨g', 0, none⟩) (pre.length + 1) cap')).ownsRow w3.heap.size 3 1 (.slice (some ⟨g', 0, none⟩) (pre.length + 1) cap') (pre ++ [x]).length ((pre ++ [x]).flatMap fun x => encI (f x)) := by
      rw [List.length_append, List.flatMap_append]
      simp only [List.flatMap_cons, List.flatMap_nil, List.append_nil, HX.out]
      exact hown'.kept (grownBy_setCell' w6 w.heap.size (.slice (some ⟨g', 0, none⟩) (pre.length + 1) cap')) (.inr (hv1.not_row (by decide) hown').symm)
    have hz := HSZ.out
    have hk7 : KeepN n0 W (w6.setCell ⟨w.heap.size, 0, none⟩ (.slice (some ⟨g', 0, none⟩) (pre.length + 1) cap')) := ⟨hb6.size, fun k k1 k2 => app_keep (v := .slice (some ⟨g', 0, none⟩) (pre.length + 1) cap') HRow.out hgrow (by omega) (by omega) k2⟩
    exact ⟨hk2.from _, hk7, ⟨⟨_, hv2, hrow7, trivial⟩, HBW.out.trans hb6, Nat.le_trans HN.out hb6.size⟩⟩
  case done =>
    rintro D ys W hD hS ⟨⟨u, hv, hrow, -⟩, hB, hN'⟩ hK
    have HRow := Lib.hid hrow
    have HBW := Lib.hid hB
    have HK := Lib.hid hK
    have HS := Lib.hid hS
    have hc := hv.cell
    clear hrow hB hN' hv hS
    go_wp2_with fail
    refine ⟨by simp, .inl ⟨_, _, rfl, run_takeDeferred HK.out, ?_⟩⟩
    refine ⟨_, results_tmp rfl _ _ _, u, ys, rfl, HS.out, ?_, HBW.out.trans (belowK_b (w := w) (Nat.le_refl _) W D _ _ (by have := HBA.out.size; omega) HK.out rfl rfl)⟩
    have h7 := ownsRow_base (b' := w.heap.size) (ownsRow_putObj HRow.out (.deferred none) HK.out rfl) HBA.out.size
    unfold OwnR
    rw [List.length_map, List.flatMap_map]
    exact h7

set_option maxRecDepth 100000 in
set_option maxHeartbeats 1000000 in
theorem collect_any (w w0 : World) (n0 : Nat) (eg : ∀ args w, (callFunc g args).run Tryz.prog w = .ok (.enter g args) w) (hN : N ≤ 100000) (hn0 : n0 ≤ w.heap.size) (hb0 : Below w0.heap.size w0 w)
    (hseq : SeqStopsK Fence.wide 4 Tryz.prog g lb (fun x => #[.int .i64 (f x)]) (KeepN n0) S Sp N w0) :
    Calls Tryz.prog 338 #[.func (.func g) #[] lb] w fun e w' => ∃ v ys, e = .returned v ∧ S ys ∧ OwnR 3 1 encI w' w.heap.size v (ys.map f) ∧ Below w.heap.size w w' := by
  have hc := appendSeq_any w w0 n0 eg hN hn0 hb0 (fun _ _ => trivial) hseq
  have HC := Lib.hid hc
  clear hc eg hseq
  go_enter Tryz.func338, Tryz.ntmps338
  go_wp2_with fail
  refine HC.out.mono ?_
  rintro e w1 ⟨v, ys, rfl, h1, h2, h3⟩
  go_wp2_with fail
  go_ret
  exact ⟨v, ys, rfl, h1, h2, h3⟩
end

end Go.Proofs.YtheenlomlmbjaaaGreatDoor

namespace Go.Proofs.YtheenlomlmbjaaaGreatDoor
open Go.RowKit Go.Maps Go.Shelf

abbrev keyedStr : Keyed Tryz.prog 9 := string_keyed Tryz.underlying9
theorem keyS {nm : Bytes} (h : nm.length ≤ 100000) : keyOf Tryz.prog 9 (.string (bs nm)) = some (kS nm) := by
  have hs : (bs nm).size ≤ maxLen := by
    simp only [bs, ByteArray.size, List.size_toArray, maxLen]; omega
  rw [keyOf_string Tryz.underlying9]
  simp [mapKey, hs]
  rfl

def StoreAt (w : World) (S d m m2 : Nat) : Prop := w.heap[S]? = some (.cells #[.pointer (some ⟨d, 0, none⟩), .map (some m), .map (some m2), .slice none 0 0, .int .i64 0, .bool false] 153 (0, 0))
def StoreOk (w : World) (S : Nat) (f : Fs) (N : Nat) : Prop := ∃ d m m2 D, StoreAt w S d m m2 ∧ DiskOk w d ∧ OMap Tryz.prog 9 w m N D ∧ FsD f N D ∧ OMap Tryz.prog 9 w m2 0 (.map [])
theorem OMap.out {F : Nat → Prop} {w w' : World} {k : TypeId} {m n : Nat} {D : DataW Value} (h : OMap Tryz.prog k w m n D) (ho : Out F w w') (hF : CellsF F w) : OMap Tryz.prog k w' m n D := by
  obtain ⟨es, clock, h5, h6⟩ := h
  have hm : ¬ F m := fun hf => by obtain ⟨c, t, f, h7⟩ := hF m hf; rw [h5] at h7; cases h7
  exact ⟨es, clock, (ho.block m (Array.getElem?_eq_some_iff.1 h5).1 hm).trans h5, h6⟩
theorem StoreOk.out {F : Nat → Prop} {w w' : World} {S N : Nat} {f : Fs} (h : StoreOk w S f N) (ho : Out F w w') (hS : ¬ F S) (hd : ∀ d, w.cell? ⟨S, 0, none⟩ = some (.pointer (some ⟨d, 0, none⟩)) → ¬ F d) (hF : CellsF F w) : StoreOk w' S f N := by
  obtain ⟨d, m, m2, D, h1, h2, h3, h4, h5⟩ := h
  exact ⟨d, m, m2, D, (ho.block S (lt_of_heap h1) hS).trans h1, h2.out ho (hd d (by rw [cell_of_row w _ _ _ _ _ h1]; rfl)) hF, OMap.out h3 ho hF, h4, OMap.out h5 ho hF⟩
theorem StoreOk.below {w w' : World} {S N : Nat} {f : Fs} (h : StoreOk w S f N) (hb : Below w.heap.size w w') : StoreOk w' S f N :=
  h.out (F := fun _ => False) (Out.of_below hb) (fun h => h) (fun _ _ h => h) (fun _ h => h.elim)
theorem StoreAt.cells {w : World} {S d m m2 : Nat} (h : StoreAt w S d m m2) : w.cell? ⟨S, 0, none⟩ = some (.pointer (some ⟨d, 0, none⟩)) ∧ w.cell? ⟨S, 1, none⟩ = some (.map (some m)) ∧ w.cell? ⟨S, 2, none⟩ = some (.map (some m2)) ∧ w.cell? ⟨S, 3, none⟩ = some (.slice none 0 0) ∧ w.cell? ⟨S, 4, none⟩ = some (.int .i64 0) ∧ w.cell? ⟨S, 5, none⟩ = some (.bool false) := by
  refine ⟨?_, ?_, ?_, ?_, ?_, ?_⟩ <;> (rw [cell_of_row w _ _ _ _ _ h]; rfl)

theorem next_endS (w : World) {ops : Array Oper} {rest : List Oper} {o : Oper} {a : Act} {Q : Exit → Act → World → Prop} (hg : o.guard = none) (it : Operand) (hop : o.op = Op.next it false) (D : DataW Value) (b r n cnt : Nat) (left : Lit → Bool)
    (hit : a.eval it = .pointer (some ⟨r, 0, none⟩)) (h : w.ranges Tryz.prog 9 rawE b r n D left cnt) (hl : ∀ z, left z = false)
    (hK : wpList Tryz.prog ops Q rest (a.put o.dst (.tuple #[.bool false])) w) :
    wpList Tryz.prog ops Q (o :: rest) a w := by
  refine wpList_next_ranges w hg it hop 9 keyedStr rawE encStr id (fun key kl hkey => by obtain ⟨x, e, _⟩ := Maps.keyOf_str Tryz.underlying9 hkey; exact ⟨x, e⟩) (fun v y _ => ⟨v, rfl⟩) b r n D _ cnt hit h ?_ ?_
  · intro _ _; exact hK
  · intro x c kl y w' cnt' _ hlk
    rw [hl kl] at hlk; cases hlk

set_option maxRecDepth 100000 in
set_option maxHeartbeats 1000000 in
theorem lasting_any (S d m m2 : Nat) (w : World) (h : StoreAt w S d m m2) (h2 : OMap Tryz.prog 9 w m2 0 (.map [])) :
    Calls Tryz.prog 360 #[.pointer (some ⟨S, 0, none⟩)] w fun e w' => ∃ b, e = .returned (.map (some b)) ∧ OMap Tryz.prog 3 w' b 0 (.map []) ∧ b < w'.heap.size ∧ Below w.heap.size w w' := by
  obtain ⟨c0, c1, c2, c3, c4, c5⟩ := h.cells
  have hmm := @run_makeMap Tryz.prog
  have HM := Lib.hid (World.ownsMap_made w Tryz.prog 3 rawE)
  have HM2 := Lib.hid (OMap.below h2 ((Below.refl _ _).alloc (Nat.le_refl _) (.map #[] 0)))
  have hSl := lt_of_heap h
  have hm2l : m2 < w.heap.size := by obtain ⟨es, clock, h5, h6⟩ := h2; exact lt_of_heap h5
  have HB := Lib.hid (show Below w.heap.size w (w.alloc (.map #[] 0)) from (Below.refl _ _).alloc (Nat.le_refl _) _)
  clear h h2
  go_enter Tryz.func360, Tryz.ntmps360
  go_wp2_with fail
  refine wp_loop_rounds 1 ?_
  rw [rounds_succ]
  go_wp2_with (at_range; refine wpList_range_own _ rfl _ 151 rfl 9 157 keyedStr Tryz.underlying151 rawE m2 0 (.map []) rfl HM2.out ?_; intro w2 hrg2 hg2 hs2)
  go_frame
  have HRG2 := Lib.hid hrg2
  have HB2 := Lib.hid (HB.out.grown hg2 HB.out.size (fun j hj => by cases hj))
  have HM3 := Lib.hid (World.ownsMap.kept HM.out hg2 (by simp))
  clear hrg2 hg2 hs2
  refine wp_loop_rounds 1 ?_
  rw [rounds_succ]
  go_wp2_with (at_next; refine next_endS _ rfl (.tmp 27) rfl (.map []) m2 (w.alloc (.map #[] 0)).heap.size 0 _ _ rfl HRG2.out (fun _ => rfl) ?_)
  go_ret
  exact ⟨_, rfl, HM3.out, World.ownsMap.lt HM3.out, HB2.out⟩

set_option maxRecDepth 100000 in
set_option maxHeartbeats 1000000 in
theorem free_any (S d m m2 : Nat) (w : World) (h : StoreAt w S d m m2) (h2 : OMap Tryz.prog 9 w m2 0 (.map [])) :
    Calls Tryz.prog 339 #[.pointer (some ⟨S, 0, none⟩)] w fun e w' => ∃ b B2, e = .returned (.func (.func 361) #[] #[.pointer (some ⟨w.heap.size, 0, none⟩), .pointer (some ⟨B2, 0, none⟩)]) ∧
      w'.cell? ⟨w.heap.size, 0, none⟩ = some (.pointer (some ⟨S, 0, none⟩)) ∧ w'.cell? ⟨B2, 0, none⟩ = some (.map (some b)) ∧ OMap Tryz.prog 3 w' b 0 (.map []) ∧ Below w.heap.size w w' := by
  have HA := Lib.hid (show StoreAt (w.alloc (.cells #[.pointer (some ⟨S, 0, none⟩)] 84)) S d m m2 from heap_old h)
  have HM := Lib.hid (OMap.below h2 ((Below.refl _ _).alloc (Nat.le_refl _) (.cells #[.pointer (some ⟨S, 0, none⟩)] 84)))
  have HB := Lib.hid (show Below w.heap.size w (w.alloc (.cells #[.pointer (some ⟨S, 0, none⟩)] 84)) from (Below.refl _ _).alloc (Nat.le_refl _) _)
  have HX := Lib.hid (heap_alloc_new w (.cells #[.pointer (some ⟨S, 0, none⟩)] 84))
  clear h h2
  go_enter Tryz.func339, Tryz.ntmps339
  go_wp2_with fail
  refine (lasting_any S d m m2 _ HA.out HM.out).mono ?_
  rintro e w1 ⟨b, rfl, hb, hbl, hbe⟩
  have HBB := Lib.hid hb
  have hx1 : w1.cell? ⟨w.heap.size, 0, none⟩ = some (.pointer (some ⟨S, 0, none⟩)) := by
    rw [cell_of_row w1 _ _ _ _ _ ((hbe.block w.heap.size (by simp)).trans HX.out)]; rfl
  have HB1 := Lib.hid (HB.out.trans (hbe.mono HB.out.size))
  clear hb hbe
  go_wp2_with fail
  go_ret
  refine ⟨b, w1.heap.size, rfl, cell_alloc_ne hx1, ?_, OMap.below HBB.out ((Below.refl _ _).alloc (Nat.le_refl _) _), HB1.out.alloc HB1.out.size _⟩
  rw [World.cell?_alloc_at _ _ _ _ (by simp)]; rfl

def FreeSeen (N : Nat) (w : World) (B1 B2 : Nat) : Prop := ∃ S d m m2 b, B1 < N ∧ B2 < N ∧ S < N ∧ d < N ∧ b < N ∧ w.cell? ⟨B1, 0, none⟩ = some (.pointer (some ⟨S, 0, none⟩)) ∧ w.cell? ⟨B2, 0, none⟩ = some (.map (some b)) ∧ StoreAt w S d m m2 ∧ (∃ mm, mm < N ∧ w.cell? ⟨d, 0, none⟩ = some (.int .i64 512)) ∧ OMap Tryz.prog 3 w b 0 (.map [])
theorem FreeSeen.keep {N : Nat} {w w' : World} {B1 B2 : Nat} (h : FreeSeen N w B1 B2) (k : KeepN N w w') : FreeSeen N w' B1 B2 := by
  obtain ⟨S, d, m, m2, b, h1, h2, h3, h4, h5, c1, c2, hS, ⟨mm, h6, hd⟩, es, clock, hb, hr⟩ := h
  have kc : ∀ {B i v}, B < N → w.cell? ⟨B, i, none⟩ = some v → w'.cell? ⟨B, i, none⟩ = some v := fun {B i v} hB hv => by
    rw [World.cell?_of_block (a := ⟨B, i, none⟩) (k.2 B hB (World.block_lt_of_cell? w _ hv))]; exact hv
  exact ⟨S, d, m, m2, b, h1, h2, h3, h4, h5, kc h1 c1, kc h2 c2, (k.2 S h3 (lt_of_heap hS)).trans hS, ⟨mm, h6, kc h4 hd⟩, es, clock, (k.2 b h5 (lt_of_heap hb)).trans hb, hr⟩

end Go.Proofs.YtheenlomlmbjaaaGreatDoor

namespace Go.Proofs.YtheenlomlmbjaaaGreatDoor
open Go.RowKit Go.Maps Go.Shelf

attribute [local go_sem] Oper.semAt_some

set_option maxRecDepth 100000 in
theorem sizeC_any (d : Nat) (w : World) (h0 : w.cell? ⟨d, 0, none⟩ = some (.int .i64 512)) :
    Calls Tryz.prog 204 #[.pointer (some ⟨d, 0, none⟩)] w fun e w' => e = .returned (.int .i64 512) ∧ w = w' := by
  go_enter Tryz.func204, Tryz.ntmps204
  go_wp2_with fail
  go_ret
  exact ⟨rfl, rfl⟩
theorem zeroBool (w : World) : (zeroValue 4).run Tryz.prog w = .ok (.bool false) w := by kernel_rfl
theorem taken_no {w : World} {b : Nat} (hm : OMap Tryz.prog 3 w b 0 (.map [])) (k : Int) (h0 : 0 ≤ k) (hk : k < 100000) : (Instr.lookup 251 (.map (some b)) (.int .i64 k) false).run Tryz.prog w = .ok (.bool false) w := by
  obtain ⟨v', ps, hrun, hv⟩ := World.ownsMap.lookup hm keyedInt Tryz.underlying251 (zeroBool w) (rawE_eq _) (keyI h0 hk)
  have e : v' = .bool false := by cases hv; rfl
  rw [e] at hrun
  exact hrun

set_option maxRecDepth 100000 in
set_option maxHeartbeats 4000000 in
theorem free1_in (fu l N B1 B2 : Nat) (hfu : 3 ≤ fu)
    (J Jx : List (Fin 510) → World → Prop) (W : World)
    (hJ : AbidesFrom W.heap.size J)
    (hY : ∀ pre x W1, J pre W1 → pre.length < 510 → YieldAt Fence.wide (fu - 1) Tryz.prog l #[.int .i64 ((x.1 : Int) + 2)] W1 fun e W' =>
      (e = .returned (.bool true) ∧ J (pre ++ [x]) W' ∧ KeepN N W1 W') ∨ (e = .returned (.bool false) ∧ Jx (pre ++ [x]) W'))
    (hS : FreeSeen N W B1 B2) (h0 : J [] W) :
    CallsIn Fence.wide fu Tryz.prog 361 #[.func (.yield l) #[] #[], .pointer (some ⟨B1, 0, none⟩), .pointer (some ⟨B2, 0, none⟩)] W fun e W' =>
      (∃ v, e = .returned v) ∧ ((∃ ys, ys = Ck.blks 510 ∧ J ys W') ∨ (∃ pre, pre <+: Ck.blks 510 ∧ Jx pre W')) := by
  have HS := Lib.hid hS
  have HJ := Lib.hid hJ
  have HY := Lib.hid hY
  clear hS hJ hY
  refine callsIn_of_wp Tryz.func361 rfl trivial ?_ rfl
  simp only [Tryz.ntmps361, List.size_toArray, List.length_cons, List.length_nil, Nat.reduceAdd, Nat.reduceSub, Array.replicate_succ, Array.replicate_zero, List.push_toArray, List.append_toArray, List.nil_append, List.cons_append]
  gi_wp2
  gi_loopw [4] (fun i wr => ∃ k : Nat, k ≤ 510 ∧ i = .int .i64 ((k : Int) + 2) ∧ J ((Ck.blks 510).take k) wr ∧ FreeSeen N wr B1 B2)
    (fun i wr => 600 - (intOf i).toNat)
  case atStart => exact ⟨0, Nat.zero_le _, rfl, h0, HS.out⟩
  case round =>
    obtain ⟨k, hk, rfl, hJs, hS⟩ := hrel
    have HJs := Lib.hid hJs
    have HS1 := Lib.hid hS
    obtain ⟨S, d, m, m2, b, h1, h2, h3, h4, h5, c1, c2, hSt, ⟨mm, h6, hd⟩, hm⟩ := hS
    have hs0 := hSt.cells.1
    have hlk := taken_no hm ((k : Int) + 2) (by omega) (by omega)
    clear hJs h0 hSt hm
    have HSz := Lib.hid (fun W' => sizeC_any d W')
    by_cases hlt : k < 510
    · have hd1 : decide (((k : Int) + 2) < 512) = true := by simp; omega
      gi_wp2
      refine ⟨trivial, fun _ => by omega, (callsIn_wide.2 (HSz.out _ hd)).mono ?_⟩
      rintro e W2 ⟨rfl, rfl⟩
      obtain ⟨fn, tmps, assign, body, hy, hR⟩ := HY.out ((Ck.blks 510).take k) ⟨k, hlt⟩ wr HJs.out (by rw [Ck.blks_take_len hk]; exact hlt)
      simp only at hy
      have HRR := Lib.hid hR
      clear hR
      gi_wp2
      refine ⟨fun _ => by omega, HRR.out.mono ?_⟩
      rintro e W3 (⟨rfl, h7, h8⟩ | ⟨rfl, h7⟩)
      · rw [← Ck.blks_take hlt] at h7
        have H7 := Lib.hid h7
        have H8 := Lib.hid (HS1.out.keep h8)
        clear h7 h8
        gi_wp2
        exact ⟨⟨k + 1, by omega, by go_num, H7.out, H8.out⟩, by simp [intOf]; omega⟩
      · rw [← Ck.blks_take hlt] at h7
        have H7 := Lib.hid h7
        clear h7
        gi_wp2
        refine bodyPost_ret (results_none rfl _ _ _) rfl ?_
        exact ⟨⟨_, rfl⟩, .inr ⟨_, List.take_prefix _ _, H7.out⟩⟩
    · have hke : k = 510 := by omega
      subst hke
      gi_wp2
      refine ⟨trivial, fun _ => by omega, (callsIn_wide.2 (HSz.out _ hd)).mono ?_⟩
      rintro e W2 ⟨rfl, rfl⟩
      gi_wp2
      go_end0
      exact ⟨⟨_, rfl⟩, by
        left
        refine ⟨_, rfl, ?_⟩
        have e : (Ck.blks 510).take 510 = Ck.blks 510 := List.take_of_length_le (by rw [Ck.blks_len]; exact Nat.le_refl _)
        rw [← e]
        exact HJs.out⟩

theorem free1_stops (fu N B1 B2 : Nat) (hfu : 3 ≤ fu) (w : World) (hN : N ≤ w.heap.size) (hS : FreeSeen N w B1 B2) :
    SeqStopsK Fence.wide fu Tryz.prog 361 #[.pointer (some ⟨B1, 0, none⟩), .pointer (some ⟨B2, 0, none⟩)] (fun x : Fin 510 => #[.int .i64 ((x.1 : Int) + 2)]) (KeepN N) (fun ys => ys = Ck.blks 510) (fun pre => pre <+: Ck.blks 510) 510 w :=
  fun l J Jx W hW hJ _ hY h0 => free1_in fu l N B1 B2 hfu J Jx W hJ hY (hS.keep ⟨hW.size, fun k _ h2 => hW.block k h2⟩) h0

def secs : List Int := (Ck.blks 510).map fun x => (x.1 : Int) + 2
theorem secs_len : secs.length = 510 := by unfold secs; rw [List.length_map, Ck.blks_len]
theorem secs_in {x : Int} (h : x ∈ secs) : 2 ≤ x ∧ x ≤ 511 := by
  unfold secs at h
  obtain ⟨i, _, rfl⟩ := List.mem_map.1 h
  have := i.2
  omega
theorem colFree_any (B1 B2 : Nat) (w : World) (hS : FreeSeen w.heap.size w B1 B2) :
    Calls Tryz.prog 338 #[.func (.func 361) #[] #[.pointer (some ⟨B1, 0, none⟩), .pointer (some ⟨B2, 0, none⟩)]] w fun e w' => ∃ v, e = .returned v ∧ OwnR 3 1 encI w' w.heap.size v secs ∧ Below w.heap.size w w' :=
  (collect_any w w w.heap.size (enters_of Tryz.func361 (by kernel_rfl) rfl) (by omega) (Nat.le_refl _) (Below.refl _ _) (free1_stops 4 w.heap.size B1 B2 (by omega) w (Nat.le_refl _) hS)).mono
    fun e w' ⟨v, ys, h1, h2, h3, h4⟩ => ⟨v, h1, by rw [h2] at h3; exact h3, h4⟩
theorem freeSeen_of {w w' : World} {S d m m2 b B2 : Nat} (hB : Below w.heap.size w w') (h : StoreAt w S d m m2) (hd : DiskOk w d) (h1 : w'.cell? ⟨w.heap.size, 0, none⟩ = some (.pointer (some ⟨S, 0, none⟩))) (h2 : w'.cell? ⟨B2, 0, none⟩ = some (.map (some b))) (hm : OMap Tryz.prog 3 w' b 0 (.map [])) :
    FreeSeen w'.heap.size w' w.heap.size B2 := by
  obtain ⟨mm, h0, _⟩ := hd.below hB
  have hS : StoreAt w' S d m m2 := (hB.block S (lt_of_heap h)).trans h
  exact ⟨S, d, m, m2, b, World.block_lt_of_cell? w' _ h1, World.block_lt_of_cell? w' _ h2, lt_of_heap hS, World.block_lt_of_cell? w' _ h0, World.ownsMap.lt hm, h1, h2, hS, ⟨w.heap.size, World.block_lt_of_cell? w' _ h1, h0⟩, hm⟩

end Go.Proofs.YtheenlomlmbjaaaGreatDoor

namespace Go.Proofs.YtheenlomlmbjaaaGreatDoor
open Go.RowKit Go.Maps Go.Shelf

theorem heap_setC {w : World} {b j : Nat} {v : Value} {cs : Array Value} {t : TypeId} (h : w.heap[b]? = some (.cells cs t (0, 0))) : (w.setCell ⟨b, j, none⟩ v).heap[b]? = some (.cells (cs.setIfInBounds j v) t (0, 0)) := by
  obtain ⟨hlt, hk⟩ := Array.getElem?_eq_some_iff.1 h
  show (w.heap.modify b _)[b]? = _
  rw [Array.getElem?_eq_getElem (by rw [Array.size_modify]; exact hlt), Array.getElem_modify_self, hk]
  rfl
theorem heap_setO {w : World} {b c j : Nat} {v : Value} {o : Obj} (h : w.heap[c]? = some o) (hne : c ≠ b) : (w.setCell ⟨b, j, none⟩ v).heap[c]? = some o := (Below.heap_setCell _ _ _ c hne).trans h
abbrev Pu := Int × Bytes
def encPu (x : Pu) : List Value := [.int .i64 x.1, .string (bs x.2)]
theorem infoPu : (Tryz.prog.info? 448).map (fun i => (i.zero, i.size, i.bytes)) = some (some (.agg #[.int .i64 0, .string (bs [])]), 2, 24) := by kernel_rfl
theorem tyPu : ETy 413 448 2 24 encPu :=
  ⟨Tryz.underlying413, ⟨_, infoPu, rfl⟩, by decide, by decide, fun _ => rfl, fun x u hu => by simp [encPu] at hu; rcases hu with rfl | rfl <;> rfl⟩

set_option maxRecDepth 100000 in
theorem tailI_run {w : World} {v : Value} {x : Int} {r : List Int} (h : RowG 1 encI w v (x :: r)) :
    ∃ b off cap u, v = .slice (some ⟨b, off, none⟩) (r.length + 1) cap ∧ w.cell? ⟨b, off, none⟩ = some (.int .i64 x) ∧ RowG 1 encI w u r ∧ (∀ w', (Instr.sliceAt 23 (.slice (some ⟨b, off, none⟩) (r.length + 1) cap) (some (.int .i64 1)) none none).run Tryz.prog w' = .ok u w') ∧
      (∀ b' o s n c, u = .slice (some ⟨b', o, s⟩) n c → b' = b) ∧ ∃ ua uc, u = .slice ua r.length uc := by
  obtain ⟨b, off, cap, rfl, h1, h2, h3, h4, h5⟩ := h.cons
  have hc := h4 0 (.int .i64 x) rfl
  refine ⟨b, off, cap, _, rfl, hc, h5 rfl, fun w' => ?_, fun b' o s n c e => ?_, _, _, rfl⟩
  · rw [run_sliceAt_slice _ _ _ _ _ _ rfl, run_slice_l _ _ _ _ _ rfl _ _ (by omega) (by omega)]
    show Result.ok (sliced (some ⟨b, off, none⟩) 1 (r.length + 1) cap 1) w' = _
    unfold sliced
    by_cases e : cap = 1
    · simp [e]
    · simp [e, Addr.add_lit]
  · by_cases e' : cap = 1
    · rw [if_pos e'] at e; simp only [Value.slice.injEq, Option.some.injEq, Addr.mk.injEq] at e; exact e.1.1.symm
    · rw [if_neg e'] at e; simp only [Value.slice.injEq, Option.some.injEq, Addr.mk.injEq] at e; exact e.1.1.symm

theorem OwnR.ne_of {α : Type} {t k base b t' : Nat} {enc : α → List Value} {w : World} {v : Value} {l : List α} {cs : Array Value} {z : Nat × Nat} (h : OwnR t k enc w base v l) (hb : w.heap[b]? = some (.cells cs t' z)) (hne : t' ≠ t) : v.ownBlock ≠ some b := by
  intro e
  rcases h.2 with ⟨rfl, _⟩ | ⟨g, cap, cur, rfl, _, hg, _⟩
  · simp [Value.ownBlock] at e
  · simp only [Value.ownBlock, Option.some.injEq] at e
    subst e
    rw [hb] at hg
    simp at hg
    exact hne hg.2.1
def PlanAt (w : World) (P Fb ml base : Nat) (c2 c3 : Value) (all tk : Nat) : Prop :=
  ∃ u v ps fr cs, w.heap[P]? = some (.cells #[u, .map (some ml), c2, c3, .int .i64 (all : Int), .int .i64 (tk : Int), .bool true] 415 (0, 0)) ∧ w.heap[Fb]? = some (.cells #[v] 23 (0, 0)) ∧
    OwnR 448 2 encPu w base u ps ∧ ps.length = tk ∧ RowG 1 encI w v (secs.drop tk) ∧
    (∀ b o s n c, v = .slice (some ⟨b, o, s⟩) n c → b = fr) ∧ w.heap[fr]? = some (.cells cs 3 (0, 0)) ∧ fr < base
def TkF (w : World) (P Fb base k : Nat) : Prop := k = P ∨ k = Fb ∨ base ≤ k ∧ ∃ c f, w.heap[k]? = some (.cells c 448 f)

set_option maxRecDepth 100000 in
set_option maxHeartbeats 2000000 in
theorem take_any (c : Bytes) (P Fb ml base : Nat) (c2 c3 : Value) (all tk : Nat) (w : World) (h : PlanAt w P Fb ml base c2 c3 all tk) (ht : tk < 510) (hbase : base ≤ w.heap.size) :
    Calls Tryz.prog 340 #[.string (bs c), .pointer (some ⟨P, 0, none⟩), .pointer (some ⟨Fb, 0, none⟩)] w fun e w' => ∃ x : Int, e = .returned (.int .i64 x) ∧ 2 ≤ x ∧ x ≤ 511 ∧ PlanAt w' P Fb ml base c2 c3 all (tk + 1) ∧ Out (TkF w P Fb base) w w' := by
  obtain ⟨u, v, ps, fr, cs, hP, hF, hown, hps, hrow, hbf, hfr, hfb⟩ := h
  have hx : ∃ x r, secs.drop tk = x :: r ∧ r = secs.drop (tk + 1) := by
    have hl : tk < secs.length := by rw [secs_len]; omega
    exact ⟨secs[tk], secs.drop (tk + 1), List.drop_eq_getElem_cons hl, rfl⟩
  obtain ⟨x, r, hd, hr⟩ := hx
  have hxin : 2 ≤ x ∧ x ≤ 511 := secs_in (List.mem_of_mem_drop (i := tk) (by rw [hd]; exact List.mem_cons_self ..))
  rw [hd] at hrow
  have hrl : r.length + tk + 1 = 510 := by rw [hr, List.length_drop, secs_len]; omega
  have HR := Lib.hid hr
  clear hr hd
  obtain ⟨b, off, cap, t, rfl, hc0, htr, htl, htb, ta, tc, rfl⟩ := tailI_run hrow
  obtain rfl := hbf _ _ _ _ _ rfl
  clear hbf
  have hbP : b ≠ P := fun e => by rw [e, hP] at hfr; simp at hfr
  have hbF : b ≠ Fb := fun e => by rw [e, hF] at hfr; simp at hfr
  have HFr := Lib.hid hfr
  have HP := Lib.hid hP
  have HF := Lib.hid hF
  have hPF : P ≠ Fb := fun e => by rw [e, hF] at hP; simp at hP
  have hPl := lt_of_heap hP
  have hFl := lt_of_heap hF
  have cP : w.cell? ⟨P, 5, none⟩ = some (.int .i64 (tk : Int)) := by rw [cell_of_row w _ _ _ _ _ hP]; rfl
  have fP : w.frozen? ⟨P, 5, none⟩ = false := by simp [World.frozen?, hP]
  have cF : w.cell? ⟨Fb, 0, none⟩ = some (.slice (some ⟨b, off, none⟩) (r.length + 1) cap) := by rw [cell_of_row w _ _ _ _ _ hF]; rfl
  have HO := Lib.hid hown
  have HTb := Lib.hid htb
  clear hP hF htb hrow hfr
  have fF : w.frozen? ⟨Fb, 0, none⟩ = false := by simp [World.frozen?, HF.out]
  have cP0 : w.cell? ⟨P, 0, none⟩ = some u := by rw [cell_of_row w _ _ _ _ _ HP.out]; rfl
  obtain ⟨ua, un, uc, hu⟩ := hown.isSl
  clear hown
  subst hu
  obtain ⟨w2, hw2⟩ : ∃ w2, w2 = (w.setCell ⟨P, 5, none⟩ (.int .i64 ((tk : Int) + 1))).setCell ⟨Fb, 0, none⟩ (.slice ta r.length tc) := ⟨_, rfl⟩
  have e1 : ((tk : Int) + 1) = ((tk + 1 : Nat) : Int) := by omega
  have HP2 := Lib.hid (show w2.heap[P]? = some (.cells #[.slice ua un uc, .map (some ml), c2, c3, .int .i64 (all : Int), .int .i64 ((tk + 1 : Nat) : Int), .bool true] 415 (0, 0)) by
    rw [hw2, heap_setO (heap_setC HP.out) hPF, e1]; rfl)
  have HF2 := Lib.hid (show w2.heap[Fb]? = some (.cells #[.slice ta r.length tc] 23 (0, 0)) by
    rw [hw2]; exact heap_setC (heap_setO HF.out (Ne.symm hPF)))
  have HFr2 := Lib.hid (show w2.heap[b]? = some (.cells cs 3 (0, 0)) by
    rw [hw2]; exact heap_setO (heap_setO HFr.out hbP) hbF)
  have hsz2 : w2.heap.size = w.heap.size := by rw [hw2]; simp [World.setCell]
  have HO2 := Lib.hid (show OwnR 448 2 encPu w2 base (.slice ua un uc) ps by
    rw [hw2]
    have h1 := HO.out.out (Out.setCell w ⟨P, 5, none⟩ (.int .i64 ((tk : Int) + 1))) (fun j e e2 => HO.out.ne_of HP.out (by decide) (e.trans (by rw [e2])))
    exact h1.out (Out.setCell _ ⟨Fb, 0, none⟩ _) (fun j e e2 => HO.out.ne_of HF.out (by decide) (e.trans (by rw [e2]))))
  have HOut2 := Lib.hid (show Out (TkF w P Fb base) w w2 from by
    rw [hw2]
    exact ((Out.setCell w ⟨P, 5, none⟩ _).mono (fun k _ hk => .inl hk)).trans (Out.setCell _ ⟨Fb, 0, none⟩ _) (fun k _ hk => .inr (.inl hk)))
  clear e1
  have HX := Lib.hid (show (w2.alloc (.cells #[.int .i64 x, .string (bs c)] 448)).heap[w.heap.size]? = some (.cells #[.int .i64 x, .string (bs c)] 448 (0, 0)) from by rw [← hsz2]; exact heap_alloc_new ..)
  have HN := Lib.hid (show base ≤ (w2.alloc (.cells #[.int .i64 x, .string (bs c)] 448)).heap.size from by simp; omega)
  have HO3 := Lib.hid (HO2.out.below ((Below.refl _ _).alloc (Nat.le_refl _) (.cells #[.int .i64 x, .string (bs c)] 448)))
  have HP3 := Lib.hid (fun w3 (hg : (w2.alloc (.cells #[.int .i64 x, .string (bs c)] 448)).grownBy w3 (Value.slice ua un uc).ownBlock) => show w3.heap[P]? = some (.cells #[.slice ua un uc, .map (some ml), c2, c3, .int .i64 (all : Int), .int .i64 ((tk + 1 : Nat) : Int), .bool true] 415 (0, 0)) from
    (hg.block P (by simp; omega) (fun e => HO2.out.ne_of HP2.out (by decide) e.symm)).trans (heap_old HP2.out))
  have hps' : ps.length ≤ 1000000000 := by omega
  subst hw2
  go_enter Tryz.func340, Tryz.ntmps340
  go_wp2_with (at_builtin; refine app1 tyPu _ rfl (.tmp 20) (.tmp 24) rfl base _ ps (x, c) w.heap.size rfl (by rfl) #[.int .i64 x, .string (bs c)] rfl HX.out HO3.out HN.out hps' ?_; intro g' cap' w3 hown3 hbel3 hgr3; have HP4 := HP3.out w3 hgr3; have HO4 := Lib.hid hown3; have HG4 := Lib.hid hgr3; have c4 : w3.cell? ⟨P, 0, none⟩ = some (.slice ua un uc) := by { rw [cell_of_row w3 _ _ _ _ _ HP4]; rfl }; have f4 : w3.frozen? ⟨P, 0, none⟩ = false := by { simp [World.frozen?, HP4] }; have HP5 := Lib.hid HP4; clear hown3 hbel3 hgr3 HP4)
  go_ret
  have hFb3 : w3.heap[Fb]? = some (.cells #[.slice ta r.length tc] 23 (0, 0)) := (HG4.out.block Fb (by simp; omega) (fun e => HO2.out.ne_of HF2.out (by decide) e.symm)).trans (heap_old HF2.out)
  have hfr3 : w3.heap[b]? = some (.cells cs 3 (0, 0)) := (HG4.out.block b (by have := lt_of_heap HFr.out; simp; omega) (fun e => HO2.out.ne_of HFr2.out (by decide) e.symm)).trans (heap_old HFr2.out)
  have hput : ∀ k, some k = (Value.slice ua un uc).ownBlock → TkF w P Fb base k := fun k hk => by
    rcases HO.out.2 with ⟨e, _⟩ | ⟨g, cp, cur, e, hge, hg, _⟩
    · rw [e] at hk; simp [Value.ownBlock] at hk
    · rw [e] at hk
      simp only [Value.ownBlock, Option.some.injEq] at hk
      subst hk
      exact .inr (.inr ⟨hge, _, _, hg⟩)
  have hout : Out (TkF w P Fb base) w (w3.setCell ⟨P, 0, none⟩ (.slice (some ⟨g', 0, none⟩) (tk + 1) cap')) :=
    (((HOut2.out.thenB ((Below.refl _ _).alloc (Nat.le_refl _) _)).trans (Out.grown HG4.out) (fun k _ hk => hput k hk)).trans (Out.setCell _ ⟨P, 0, none⟩ _) (fun k _ hk => .inl hk))
  refine ⟨x, rfl, hxin.1, hxin.2, ⟨.slice (some ⟨g', 0, none⟩) (tk + 1) cap', .slice ta r.length tc, ps ++ [(x, c)], b, cs, ?_, heap_setO hFb3 (Ne.symm hPF), ?_, by simp [hps], ?_, ?_, heap_setO hfr3 hbP, hfb⟩, hout⟩
  · rw [heap_setC HP5.out]; rfl
  · have h5 : OwnR 448 2 encPu w3 base (.slice (some ⟨g', 0, none⟩) (tk + 1) cap') (ps ++ [(x, c)]) := by
      have := HO4.out
      rw [hps] at this
      exact this
    exact h5.out (Out.setCell _ ⟨P, 0, none⟩ _) (fun j e e2 => h5.ne_of HP5.out (by decide) (e.trans (by rw [e2])))
  · rw [← HR.out]
    refine htr.out hout (fun b' o s n c' e hf => ?_)
    rw [HTb.out _ _ _ _ _ e] at hf
    rcases hf with hf | hf | ⟨_, c9, f9, hf⟩
    · exact hbP hf
    · exact hbF hf
    · rw [HFr.out] at hf; simp at hf
  · exact fun b' o s n c' e => HTb.out _ _ _ _ _ e

end Go.Proofs.YtheenlomlmbjaaaGreatDoor

namespace Go.Proofs.YtheenlomlmbjaaaGreatDoor
open Go.RowKit Go.Maps Go.Sort Go.Shelf

theorem sortsA (m : Nat) : AnyZ.SortsIn Tryz.prog Tryz.sortedA_ren Fence.wide m :=
  ⟨fun blk off cap ss W hH hblk hsz => callsIn_wide.2 (AnyM.slices_Sort_string Tryz.sortA blk off cap ss W hH hblk hsz),
   fun p cap W => callsIn_wide.2 (AnyM.slices_Sort_string_none Tryz.sortA p cap W)⟩

theorem keysM_any (mb : Option Nat) (W : World) : Calls Tryz.prog 342 #[.map mb] W fun e w' => e = .returned (.func (.func 364) #[] #[.pointer (some ⟨W.heap.size, 0, none⟩)]) ∧ w' = W.alloc (.cells #[.map mb] 150) :=
  callsIn_wide.1 (show CallsIn Fence.wide 5 Tryz.prog 342 #[.map mb] W _ from AnyZ.keys_in Tryz.keysA Fence.wide 5 trivial rfl mb W)

set_option maxRecDepth 100000 in
theorem sortedM_any (b N : Nat) (D : DataW Value) (f : Fs) (w : World) (hown : OMap Tryz.prog 9 w b N D) (hf : FsD f N D) (hN : N ≤ 100) :
    Calls Tryz.prog 341 #[.func (.func 364) #[] #[.pointer (some ⟨w.heap.size, 0, none⟩)]] (w.alloc (.cells #[.map (some b)] 150)) fun e w' =>
      ∃ v ss, e = .returned v ∧ OwnR 9 1 encT w' w.heap.size v ss ∧ ss.length ≤ N ∧ ss.Pairwise (· ≠ ·) ∧ (∀ nm ∈ ss, ∃ d, f nm = some d) ∧ Below w.heap.size w w' := by
  have hbl := World.ownsMap.lt hown
  obtain ⟨n1, n2, n3⟩ := hf.names
  have hseq : SeqGives Fence.wide 2 Tryz.prog 364 #[.pointer (some ⟨w.heap.size, 0, none⟩)] encStr (fun ss => ss.Perm (strKeys D)) (Maps.size D) (w.alloc (.cells #[.map (some b)] 150)) :=
    AnyZ.keys_gives (ρ := Tryz.keysA_ren) { Tryz.keysA with } Fence.wide _ trivial rfl (by omega) w.heap.size b N D _ (by simp) (by simp) (by
      obtain ⟨es, clock, hb, Ft, hs, hD⟩ := hown
      exact ⟨es, clock, (Below.heap_alloc _ _ b hbl).trans hb, Ft, hs, hD⟩)
  have hs := hf.size
  have cS := AnyZ.sorted_in Tryz.sortedA Fence.wide 5 trivial trivial trivial trivial rfl (by omega) (sortsA _) (enters_of Tryz.func363 (by kernel_rfl) rfl) 364 #[.pointer (some ⟨w.heap.size, 0, none⟩)] trivial (enters_of Tryz.func364 (by kernel_rfl) rfl) _ _ (by simp only [maxLen]; omega) (by omega) _ hseq
  refine (callsIn_wide.1 (show CallsIn Fence.wide 5 Tryz.prog 341 _ _ _ from cS)).mono ?_
  rintro e w' ⟨v, ss, rfl, hS, hrow, hnil, hb⟩
  have hp : (ss.mergeSort (fun x y => decide (x ≤ y))).Perm (strKeys D) := (List.mergeSort_perm _ _).trans hS
  refine ⟨v, ss.mergeSort (fun x y => decide (x ≤ y)), rfl, ?_, by rw [hp.length_eq]; exact n1, ?_, fun nm hm => n3 nm (hp.mem_iff.1 hm), ((Below.refl _ w).alloc (Nat.le_refl _) _).trans (hb.mono (by simp))⟩
  · have h7 := ownsRow_base (b' := w.heap.size) hrow (by simp)
    unfold OwnR
    rw [List.length_mergeSort]
    have e : (ss.mergeSort (fun x y => decide (x ≤ y))).flatMap encT = (ss.mergeSort (fun x y => decide (x ≤ y))).map encStr := by
      generalize (ss.mergeSort (fun x y => decide (x ≤ y))) = l
      induction l with
      | nil => rfl
      | cons x l ih => rw [List.flatMap_cons, List.map_cons, ih]; rfl
    rw [e]
    exact h7
  · exact (List.Perm.pairwise_iff (fun h => Ne.symm h) hp).2 n2

end Go.Proofs.YtheenlomlmbjaaaGreatDoor

namespace Go.Proofs.YtheenlomlmbjaaaGreatDoor
open Go.RowKit Go.Maps Go.Shelf

theorem PlanAt.out {F : Nat → Prop} {w w' : World} {P Fb ml base : Nat} {c2 c3 : Value} {all tk : Nat} (h : PlanAt w P Fb ml base c2 c3 all tk) (ho : Out F w w')
    (hF : ∀ k, F k → ∃ o, w.heap[k]? = some o ∧ (∀ cs t z, o = .cells cs t z → t ≠ 415 ∧ t ≠ 23 ∧ t ≠ 448 ∧ (t = 3 → base ≤ k))) : PlanAt w' P Fb ml base c2 c3 all tk := by
  obtain ⟨u, v, ps, fr, cs, hP, hFb, hown, hps, hrow, hbf, hfr, hfb⟩ := h
  have nP : ¬ F P := fun hf => by obtain ⟨o, h1, h2⟩ := hF P hf; rw [hP] at h1; cases h1; exact (h2 _ _ _ rfl).1 rfl
  have nF : ¬ F Fb := fun hf => by obtain ⟨o, h1, h2⟩ := hF Fb hf; rw [hFb] at h1; cases h1; exact (h2 _ _ _ rfl).2.1 rfl
  have nR : ¬ F fr := fun hf => by obtain ⟨o, h1, h2⟩ := hF fr hf; rw [hfr] at h1; cases h1; exact absurd ((h2 _ _ _ rfl).2.2.2 rfl) (by omega)
  refine ⟨u, v, ps, fr, cs, (ho.block P (lt_of_heap hP) nP).trans hP, (ho.block Fb (lt_of_heap hFb) nF).trans hFb, hown.out ho (fun j hj hf => ?_), hps, hrow.out ho (fun b o s n c e hf => nR (by rw [← hbf _ _ _ _ _ e]; exact hf)), hbf, (ho.block fr (lt_of_heap hfr) nR).trans hfr, hfb⟩
  rcases hown.2 with ⟨e, _⟩ | ⟨g, cp, cur, e, _, hg, _⟩
  · rw [e] at hj; simp [Value.ownBlock] at hj
  · rw [e] at hj
    simp only [Value.ownBlock, Option.some.injEq] at hj
    subst hj
    obtain ⟨o, h1, h2⟩ := hF g hf
    rw [hg] at h1; cases h1
    exact (h2 _ _ _ rfl).2.2.1 rfl
theorem PlanAt.below {w w' : World} {P Fb ml base : Nat} {c2 c3 : Value} {all tk : Nat} (h : PlanAt w P Fb ml base c2 c3 all tk) (hb : Below w.heap.size w w') : PlanAt w' P Fb ml base c2 c3 all tk :=
  h.out (F := fun _ => False) (Out.of_below hb) (fun _ h => h.elim)
theorem PlanAt.setAll {w : World} {P Fb ml base : Nat} {c2 c3 : Value} {all tk : Nat} (h : PlanAt w P Fb ml base c2 c3 all tk) (n : Nat) : PlanAt (w.setCell ⟨P, 4, none⟩ (.int .i64 (n : Int))) P Fb ml base c2 c3 n tk := by
  obtain ⟨u, v, ps, fr, cs, hP, hFb, hown, hps, hrow, hbf, hfr, hfb⟩ := h
  have h1 : Fb ≠ P := fun e => by rw [e, hP] at hFb; simp at hFb
  have h2 : fr ≠ P := fun e => by rw [e, hP] at hfr; simp at hfr
  refine ⟨u, v, ps, fr, cs, by rw [heap_setC hP]; rfl, heap_setO hFb h1, hown.out (Out.setCell _ _ _) (fun j e e2 => hown.ne_of hP (by decide) (e.trans (by rw [e2]))), hps, hrow.out (Out.setCell _ _ _) (fun b o s n c e hf => h2 ((hbf _ _ _ _ _ e).symm.trans hf)), hbf, heap_setO hfr h2, hfb⟩
theorem PlanAt.setC2 {w : World} {P Fb ml base : Nat} {c2 c3 : Value} {all tk : Nat} (h : PlanAt w P Fb ml base c2 c3 all tk) (x : Value) : PlanAt (w.setCell ⟨P, 2, none⟩ x) P Fb ml base x c3 all tk := by
  obtain ⟨u, v, ps, fr, cs, hP, hFb, hown, hps, hrow, hbf, hfr, hfb⟩ := h
  have h1 : Fb ≠ P := fun e => by rw [e, hP] at hFb; simp at hFb
  have h2 : fr ≠ P := fun e => by rw [e, hP] at hfr; simp at hfr
  refine ⟨u, v, ps, fr, cs, by rw [heap_setC hP]; rfl, heap_setO hFb h1, hown.out (Out.setCell _ _ _) (fun j e e2 => hown.ne_of hP (by decide) (e.trans (by rw [e2]))), hps, hrow.out (Out.setCell _ _ _) (fun b o s n c e hf => h2 ((hbf _ _ _ _ _ e).symm.trans hf)), hbf, heap_setO hfr h2, hfb⟩
theorem PlanAt.setC3 {w : World} {P Fb ml base : Nat} {c2 c3 : Value} {all tk : Nat} (h : PlanAt w P Fb ml base c2 c3 all tk) (x : Value) : PlanAt (w.setCell ⟨P, 3, none⟩ x) P Fb ml base c2 x all tk := by
  obtain ⟨u, v, ps, fr, cs, hP, hFb, hown, hps, hrow, hbf, hfr, hfb⟩ := h
  have h1 : Fb ≠ P := fun e => by rw [e, hP] at hFb; simp at hFb
  have h2 : fr ≠ P := fun e => by rw [e, hP] at hfr; simp at hfr
  refine ⟨u, v, ps, fr, cs, by rw [heap_setC hP]; rfl, heap_setO hFb h1, hown.out (Out.setCell _ _ _) (fun j e e2 => hown.ne_of hP (by decide) (e.trans (by rw [e2]))), hps, hrow.out (Out.setCell _ _ _) (fun b o s n c e hf => h2 ((hbf _ _ _ _ _ e).symm.trans hf)), hbf, heap_setO hfr h2, hfb⟩
theorem PlanAt.cells {w : World} {P Fb ml base : Nat} {c2 c3 : Value} {all tk : Nat} (h : PlanAt w P Fb ml base c2 c3 all tk) : ∃ u, w.heap[P]? = some (.cells #[u, .map (some ml), c2, c3, .int .i64 (all : Int), .int .i64 (tk : Int), .bool true] 415 (0, 0)) ∧
    w.cell? ⟨P, 0, none⟩ = some u ∧ w.cell? ⟨P, 1, none⟩ = some (.map (some ml)) ∧ w.cell? ⟨P, 2, none⟩ = some c2 ∧ w.cell? ⟨P, 3, none⟩ = some c3 ∧ w.cell? ⟨P, 4, none⟩ = some (.int .i64 (all : Int)) ∧ w.cell? ⟨P, 5, none⟩ = some (.int .i64 (tk : Int)) ∧ w.cell? ⟨P, 6, none⟩ = some (.bool true) ∧ (∀ i, w.frozen? ⟨P, i, none⟩ = false) ∧ ∃ a n c, u = .slice a n c := by
  obtain ⟨u, v, ps, fr, cs, hP, hFb, hown, -⟩ := h
  refine ⟨u, hP, ?_, ?_, ?_, ?_, ?_, ?_, ?_, fun i => by simp [World.frozen?, hP], hown.isSl⟩ <;> (rw [cell_of_row w _ _ _ _ _ hP]; rfl)

structure PI (w : World) (P Fb ml base : Nat) (c2 c3 : Value) (all tk : Nat) (nv : Value) (ss : List Bytes) (W : World) : Prop where
  plan : PlanAt W P Fb ml base c2 c3 all tk
  keys : KeysOk Tryz.prog 9 W ml
  below : Below w.heap.size w W
  names : OwnR 9 1 encT W base nv ss
  res : W.heap[w.heap.size]? = some (.cells #[.slice none 0 0, .map none, .string (bs []), .slice none 0 0, .int .i64 0, .int .i64 0, .bool false] 415 (0, 0))
  far : w.heap.size < P ∧ w.heap.size < Fb ∧ w.heap.size < ml ∧ w.heap.size < base ∧ P < base ∧ base ≤ W.heap.size

section
variable {w W W' : World} {P Fb ml base : Nat} {c2 c3 : Value} {all tk : Nat} {nv : Value} {ss : List Bytes}
theorem PI.out {F : Nat → Prop} (h : PI w P Fb ml base c2 c3 all tk nv ss W) (ho : Out F W W')
    (hF : ∀ k, F k → w.heap.size ≤ k ∧ ∃ cs t z, W.heap[k]? = some (.cells cs t z) ∧ t ≠ 415 ∧ t ≠ 23 ∧ t ≠ 448 ∧ (t = 3 → base ≤ k) ∧ t ≠ 9) : PI w P Fb ml base c2 c3 all tk nv ss W' := by
  have hml : ¬ F ml := fun hf => by
    obtain ⟨_, cs, t, z, h1, _⟩ := hF ml hf
    obtain ⟨es, clock, hb, _⟩ := h.keys
    rw [h1] at hb; cases hb
  refine ⟨h.plan.out ho (fun k hk => ?_), ?_, ?_, h.names.out ho (fun j hj hf => ?_), ?_, h.far.1, h.far.2.1, h.far.2.2.1, h.far.2.2.2.1, h.far.2.2.2.2.1, Nat.le_trans h.far.2.2.2.2.2 ho.size⟩
  · obtain ⟨_, cs, t, z, h1, h2, h3, h4, h5, _⟩ := hF k hk
    exact ⟨_, h1, fun cs' t' z' e => by cases e; exact ⟨h2, h3, h4, h5⟩⟩
  · obtain ⟨es, clock, hb, hk⟩ := h.keys
    exact ⟨es, clock, (ho.block ml (lt_of_heap hb) hml).trans hb, hk⟩
  · exact h.below.trans (ho.below (fun k hk hf => absurd (hF k hf).1 (by omega)) h.below.size)
  · rcases h.names.2 with ⟨e, _⟩ | ⟨g, cp, cur, e, _, hg, _⟩
    · rw [e] at hj; simp [Value.ownBlock] at hj
    · rw [e] at hj
      simp only [Value.ownBlock, Option.some.injEq] at hj
      subst hj
      obtain ⟨_, cs, t, z, h1, _, _, _, _, h6⟩ := hF g hf
      rw [hg] at h1; cases h1
      exact h6 rfl
  · refine (ho.block _ (lt_of_heap h.res) (fun hf => ?_)).trans h.res
    obtain ⟨_, cs, t, z, h1, h2, _⟩ := hF _ hf
    rw [h.res] at h1; cases h1
    exact h2 rfl
theorem PI.below' (h : PI w P Fb ml base c2 c3 all tk nv ss W) (hb : Below W.heap.size W W') : PI w P Fb ml base c2 c3 all tk nv ss W' :=
  h.out (F := fun _ => False) (Out.of_below hb) (fun _ h => h.elim)
theorem PI.ofPlan {F : Nat → Prop} {c2' c3' : Value} {all' tk' : Nat} (h : PI w P Fb ml base c2 c3 all tk nv ss W) (hp : PlanAt W' P Fb ml base c2' c3' all' tk') (ho : Out F W W') (hF : ∀ k, F k → TkF W P Fb base k) : PI w P Fb ml base c2' c3' all' tk' nv ss W' := by
  have hFb := h.plan
  obtain ⟨u, v, ps, fr, cs, hP, hFb, -⟩ := hFb
  have hml : ¬ F ml := fun hf => by
    obtain ⟨es, clock, hb, _⟩ := h.keys
    rcases hF ml hf with e | e | ⟨_, c, f, e⟩
    · rw [e, hP] at hb; cases hb
    · rw [e, hFb] at hb; cases hb
    · rw [e] at hb; cases hb
  refine ⟨hp, ?_, ?_, h.names.out ho (fun j hj hf => ?_), ?_, h.far.1, h.far.2.1, h.far.2.2.1, h.far.2.2.2.1, h.far.2.2.2.2.1, Nat.le_trans h.far.2.2.2.2.2 ho.size⟩
  · obtain ⟨es, clock, hb, hk⟩ := h.keys
    exact ⟨es, clock, (ho.block ml (lt_of_heap hb) hml).trans hb, hk⟩
  · refine h.below.trans (ho.below (fun k hk hf => ?_) h.below.size)
    have := h.far
    rcases hF k hf with e | e | ⟨e, _⟩ <;> omega
  · rcases h.names.2 with ⟨e, _⟩ | ⟨g, cp, cur, e, _, hg, _⟩
    · rw [e] at hj; simp [Value.ownBlock] at hj
    · rw [e] at hj
      simp only [Value.ownBlock, Option.some.injEq] at hj
      subst hj
      rcases hF g hf with e | e | ⟨_, c, f, e⟩
      · rw [e, hP] at hg; simp at hg
      · rw [e, hFb] at hg; simp at hg
      · rw [e] at hg; simp at hg
  · refine (ho.block _ (lt_of_heap h.res) (fun hf => ?_)).trans h.res
    have := h.far
    rcases hF _ hf with e | e | ⟨e, _⟩ <;> omega
theorem PI.setAll (h : PI w P Fb ml base c2 c3 all tk nv ss W) (n : Nat) : PI w P Fb ml base c2 c3 n tk nv ss (W.setCell ⟨P, 4, none⟩ (.int .i64 (n : Int))) :=
  h.ofPlan (h.plan.setAll n) (Out.setCell _ _ _) (fun k hk => .inl hk)
theorem PI.setC2 (h : PI w P Fb ml base c2 c3 all tk nv ss W) (x : Value) : PI w P Fb ml base x c3 all tk nv ss (W.setCell ⟨P, 2, none⟩ x) :=
  h.ofPlan (h.plan.setC2 x) (Out.setCell _ _ _) (fun k hk => .inl hk)
theorem PI.setC3 (h : PI w P Fb ml base c2 c3 all tk nv ss W) (x : Value) : PI w P Fb ml base c2 x all tk nv ss (W.setCell ⟨P, 3, none⟩ x) :=
  h.ofPlan (h.plan.setC3 x) (Out.setCell _ _ _) (fun k hk => .inl hk)
theorem PI.mapPut {nm : Bytes} {v : Value} (h : PI w P Fb ml base c2 c3 all tk nv ss W) (hl : nm.length ≤ 100000) :
    (Instr.mapUpdate 151 (.map (some ml)) (.string (bs nm)) v).run Tryz.prog W = .ok () (mapPut Tryz.prog 151 ml (.string (bs nm)) v W) ∧ PI w P Fb ml base c2 c3 all tk nv ss (mapPut Tryz.prog 151 ml (.string (bs nm)) v W) ∧ W.grownBy (mapPut Tryz.prog 151 ml (.string (bs nm)) v W) (some ml) := by
  obtain ⟨h1, h2, h3⟩ := h.keys.put keyedStr Tryz.underlying151 (keyS hl) v
  refine ⟨h1, ?_, h3⟩
  have ho := Out.grown h3
  obtain ⟨es, clock, hb, _⟩ := h.keys
  have hne : ∀ {k : Nat} {o : Obj}, W.heap[k]? = some o → (∀ e c, o ≠ .map e c) → ¬ (some k = some ml) := fun {k o} hk ho e => by
    simp only [Option.some.injEq] at e
    rw [e, hb] at hk
    exact ho _ _ (Option.some.inj hk).symm
  refine ⟨h.plan.out ho (fun k hk => ?_), h2, ?_, h.names.out ho (fun j hj hf => ?_), ?_, h.far.1, h.far.2.1, h.far.2.2.1, h.far.2.2.2.1, h.far.2.2.2.2.1, Nat.le_trans h.far.2.2.2.2.2 ho.size⟩
  · simp only [Option.some.injEq] at hk
    subst hk
    exact ⟨_, hb, fun _ _ _ e => by cases e⟩
  · refine h.below.trans (ho.below (fun k hk hf => ?_) h.below.size)
    simp only [Option.some.injEq] at hf
    have := h.far
    omega
  · rcases h.names.2 with ⟨e, _⟩ | ⟨g, cp, cur, e, _, hg, _⟩
    · rw [e] at hj; simp [Value.ownBlock] at hj
    · rw [e] at hj
      simp only [Value.ownBlock, Option.some.injEq] at hj
      subst hj
      exact hne hg (by simp) hf
  · exact (ho.block _ (lt_of_heap h.res) (hne h.res (by simp))).trans h.res
end

theorem PlanAt.not_tk {w : World} {P Fb ml base : Nat} {c2 c3 : Value} {all tk k : Nat} {cs : Array Value} {t : TypeId} {z : Nat × Nat} (h : PlanAt w P Fb ml base c2 c3 all tk) (hk : w.heap[k]? = some (.cells cs t z)) (h1 : t ≠ 415) (h2 : t ≠ 23) (h3 : t ≠ 448) : ¬ TkF w P Fb base k := by
  obtain ⟨u, v, ps, fr, cs', hP, hFb, -⟩ := h
  rintro (e | e | ⟨_, c, f, e⟩)
  · rw [e, hP] at hk; cases hk; exact h1 rfl
  · rw [e, hFb] at hk; cases hk; exact h2 rfl
  · rw [e] at hk; cases hk; exact h3 rfl
theorem PlanAt.row_tk {α : Type} {t k b : Nat} {enc : α → List Value} {v : Value} {l : List α} {w w' : World} {P Fb ml base : Nat} {c2 c3 : Value} {all tk : Nat} (h : PlanAt w P Fb ml base c2 c3 all tk) (hr : OwnR t k enc w b v l) (ho : Out (TkF w P Fb base) w w') (h1 : t ≠ 415) (h2 : t ≠ 23) (h3 : t ≠ 448) : OwnR t k enc w' b v l :=
  hr.out ho fun j hj hf => by
    rcases hr.2 with ⟨e, _⟩ | ⟨g, cp, cur, e, _, hg, _⟩
    · rw [e] at hj; simp [Value.ownBlock] at hj
    · rw [e] at hj
      simp only [Value.ownBlock, Option.some.injEq] at hj
      subst hj
      exact h.not_tk hg h1 h2 h3 hf
theorem PI.appK {w W w2 : World} {P Fb ml base K : Nat} {c2 c3 : Value} {all tk : Nat} {nv : Value} {ss : List Bytes} {d0 sv v' : Value} {sl : List Int} {o : Obj} (h : PI w P Fb ml base c2 c3 all tk nv ss W) (hK : W.heap[K]? = some (.cells #[d0, sv] 157 (0, 0))) (hs : OwnR 3 1 encI W (K + 2) sv sl) (hb : base ≤ K)
    (hg : (W.alloc o).grownBy w2 sv.ownBlock) : PI w P Fb ml base c2 c3 all tk nv ss (w2.setCell ⟨K, 1, none⟩ v') ∧ Out (fun k => k = K ∨ some k = sv.ownBlock) W (w2.setCell ⟨K, 1, none⟩ v') := by
  have ho : Out (fun k => k = K ∨ some k = sv.ownBlock) W (w2.setCell ⟨K, 1, none⟩ v') :=
    ((Out.of_below (F := fun k => k = K ∨ some k = sv.ownBlock) ((Below.refl _ _).alloc (Nat.le_refl _) o)).trans (Out.grown hg) (fun k _ hk => .inr hk)).trans (Out.setCell _ ⟨K, 1, none⟩ _) (fun k _ hk => .inl hk)
  refine ⟨h.out ho fun k hk => ?_, ho⟩
  have hf := h.far
  rcases hk with rfl | hk
  · exact ⟨by omega, _, _, _, hK, by decide, by decide, by decide, fun e => absurd e (by decide), by decide⟩
  · rcases hs.2 with ⟨e, _⟩ | ⟨g, cp, cur, e, hge, hg', _⟩
    · rw [e] at hk; simp [Value.ownBlock] at hk
    · rw [e] at hk
      simp only [Value.ownBlock, Option.some.injEq] at hk
      subst hk
      exact ⟨by omega, _, _, _, hg', by decide, by decide, by decide, fun _ => by omega, by decide⟩

end Go.Proofs.YtheenlomlmbjaaaGreatDoor
