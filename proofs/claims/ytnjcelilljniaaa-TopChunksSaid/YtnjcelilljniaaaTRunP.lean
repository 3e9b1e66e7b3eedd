/-
  Plain: what runs.Encode says of rows of even times: heads and bodies of blocks of sixteen.
-/
import Derived.Test.YtnjcelilljniaaaTTwoK
import Derived.Test.YtnjcelilljniaaaTRight
namespace Go.Proofs.Ytnjcelilljniaaa
open Go.RowKit

/-- How many rows the j-th block has; how many blocks there are. -/
def chN (n j : Nat) : Nat := if 16 * j + 16 ≤ n then 16 else n - 16 * j
def nBlk (n : Nat) : Nat := (n + 15) / 16
theorem chN_le (n j : Nat) : chN n j ≤ 16 := by unfold chN; split <;> omega
theorem chN_pos {n j : Nat} (h : j < nBlk n) : 1 ≤ chN n j := by unfold chN nBlk at *; split <;> omega
theorem chN_in {n j : Nat} (h : j < nBlk n) : 16 * j + chN n j ≤ n := by unfold chN nBlk at *; split <;> omega
theorem nBlk_le {n : Nat} (h : n ≤ 90) : nBlk n ≤ 6 := by unfold nBlk; omega
theorem nBlk_lt {n j : Nat} : j < nBlk n ↔ 16 * j < n := by unfold nBlk; omega

/-- One row of a block: its step, its series, its value. -/
noncomputable def rowB (d : Nat) (v : Int) : Bytes := uintL d ++ uintL 7 ++ uintL (foldN v)
/-- The step of the i-th row. -/
def stp (st i : Nat) : Nat := if i = 0 then 0 else st
noncomputable def blkL (m st : Nat) (v : Int) : Bytes := (List.range m).flatMap fun i => rowB (stp st i) v
theorem blkL_succ (m st : Nat) (v : Int) : blkL (m + 1) st v = blkL m st v ++ rowB (stp st m) v := by simp [blkL, List.range_succ]
noncomputable def headB (n st : Nat) (v : Int) (j : Nat) : Bytes := uintL (16 * j * st) ++ uintL ((chN n j - 1) * st) ++ uintL (blkL (chN n j) st v).length
noncomputable def headT (n st : Nat) (v : Int) (l : List Nat) : Bytes := uintL n ++ l.flatMap (headB n st v)
noncomputable def bodyT (n st : Nat) (v : Int) (l : List Nat) : Bytes := l.flatMap fun j => blkL (chN n j) st v
noncomputable def runL (n st : Nat) (v : Int) : Bytes := headT n st v (List.range (nBlk n)) ++ bodyT n st v (List.range (nBlk n))
theorem headT_snoc (n st : Nat) (v : Int) (l : List Nat) (k : Nat) : headT n st v (l ++ [k]) = headT n st v l ++ headB n st v k := by simp [headT]
theorem bodyT_snoc (n st : Nat) (v : Int) (l : List Nat) (k : Nat) : bodyT n st v (l ++ [k]) = bodyT n st v l ++ blkL (chN n k) st v := by simp [bodyT]
theorem headT_nil (n st : Nat) (v : Int) : headT n st v [] = uintL n := by simp [headT]
theorem bodyT_nil (n st : Nat) (v : Int) : bodyT n st v [] = [] := rfl

section
variable {n st : Nat} {v : Int}
theorem rowB_len (d : Nat) (hd : d ≤ 300) (h0 : -9223372036854775808 ≤ v) (h1 : v ≤ 9223372036854775807) : (rowB d v).length ≤ 30 := by
  have a := uintL_len10 (n := d) (by omega)
  have b := uintL_len10 (n := 7) (by omega)
  have c := uintL_len10 (foldN_lt h0 h1)
  unfold rowB; simp only [List.length_append]; omega
theorem rowB_pos (d : Nat) : 1 ≤ (rowB d v).length := by
  have := uintL_pos d
  unfold rowB; simp only [List.length_append]; omega
theorem stp_le (hst : st ≤ 300) (i : Nat) : stp st i ≤ 300 := by unfold stp; split <;> omega
theorem blkL_len (hst : st ≤ 300) (h0 : -9223372036854775808 ≤ v) (h1 : v ≤ 9223372036854775807) (m : Nat) : (blkL m st v).length ≤ 30 * m := by
  induction m with
  | zero => simp [blkL]
  | succ m ih => rw [blkL_succ, List.length_append]; have := rowB_len (v := v) (stp st m) (stp_le hst m) h0 h1; omega
theorem blkL_ge (m : Nat) : m ≤ (blkL m st v).length := by
  induction m with
  | zero => exact Nat.zero_le _
  | succ m ih => rw [blkL_succ, List.length_append]; have := rowB_pos (v := v) (stp st m); omega
theorem headB_len (hn : n ≤ 90) (hst : st ≤ 300) (h0 : -9223372036854775808 ≤ v) (h1 : v ≤ 9223372036854775807) {j : Nat} (hj : j < nBlk n) : (headB n st v j).length ≤ 30 := by
  have hj' := nBlk_lt.1 hj
  have e1 : 16 * j * st ≤ 90 * 300 := Nat.mul_le_mul (by omega) hst
  have e2 : (chN n j - 1) * st ≤ 16 * 300 := Nat.mul_le_mul (by have := chN_le n j; omega) hst
  have e3 := blkL_len (v := v) hst h0 h1 (chN n j)
  have e4 := chN_le n j
  have a := uintL_len10 (n := 16 * j * st) (by omega)
  have b := uintL_len10 (n := (chN n j - 1) * st) (by omega)
  have c := uintL_len10 (n := (blkL (chN n j) st v).length) (by omega)
  unfold headB; simp only [List.length_append]; omega
theorem headT_len (hn : n ≤ 90) (hst : st ≤ 300) (h0 : -9223372036854775808 ≤ v) (h1 : v ≤ 9223372036854775807) (l : List Nat) (hl : ∀ j ∈ l, j < nBlk n) : (headT n st v l).length ≤ 10 + 30 * l.length := by
  have a := uintL_len10 (n := n) (by omega)
  unfold headT
  rw [List.length_append]
  have : (l.flatMap (headB n st v)).length ≤ 30 * l.length := by
    induction l with
    | nil => simp
    | cons j r ih =>
      rw [List.flatMap_cons, List.length_append, List.length_cons]
      have := headB_len (v := v) hn hst h0 h1 (hl j (by simp))
      have := ih (fun i hi => hl i (by simp [hi]))
      omega
  omega
theorem bodyT_len (hst : st ≤ 300) (h0 : -9223372036854775808 ≤ v) (h1 : v ≤ 9223372036854775807) (l : List Nat) : (bodyT n st v l).length ≤ 480 * l.length := by
  unfold bodyT
  induction l with
  | nil => simp
  | cons j r ih => rw [List.flatMap_cons, List.length_append, List.length_cons]; have := blkL_len (v := v) hst h0 h1 (chN n j); have := chN_le n j; omega
theorem runL_len (hn : n ≤ 90) (hst : st ≤ 300) (h0 : -9223372036854775808 ≤ v) (h1 : v ≤ 9223372036854775807) : (runL n st v).length ≤ 4000 := by
  have a := headT_len (v := v) hn hst h0 h1 (List.range (nBlk n)) (fun j hj => List.mem_range.1 hj)
  have b := bodyT_len (n := n) (v := v) hst h0 h1 (List.range (nBlk n))
  have c := nBlk_le hn
  rw [List.length_range] at a b
  unfold runL; rw [List.length_append]; omega
end

/-- The time of a row of a block. -/
theorem row_time {st j i : Nat} : (16 * j + i) * st = 16 * j * st + i * st := Nat.add_mul _ _ _

end Go.Proofs.Ytnjcelilljniaaa
