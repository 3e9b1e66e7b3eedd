/-
  The bound of labels: 'large', 'heavy' (layer 4, layer 5).
-/
import Derived.Test.YtamdkmcdleilpaaMatch
namespace Go.Proofs.Ytamdkmcdleilpaa
open Go.RowKit

def wt (ls : List Lab) : Nat := (ls.map fun x => x.1.length + x.2.length).sum
theorem wt_succ {ls : List Lab} {k : Nat} (h : k < ls.length) : wt (ls.take (k + 1)) = wt (ls.take k) + ((ls.getD k ([], [])).1.length + (ls.getD k ([], [])).2.length) := by
  have e : ls.take (k + 1) = ls.take k ++ [ls.getD k ([], [])] := by
    rw [List.take_add_one, List.getElem?_eq_getElem h]; simp [List.getD, List.getElem?_eq_getElem h]
  unfold wt
  rw [e, List.map_append, List.sum_append]
  rfl

theorem below_drewN {B : Nat} {a w : World} (h : Below B a w) (n : Nat) : Below B a (w.drewN n) := ⟨h.os, h.tape, h.output, h.size, h.block⟩

/-- A number, but not more than 2^20: under a name, so that the walk does not part on it. -/
def cap20 (n : Int) : Int := if 1048576 < n then 1048576 else n
theorem min20 (w : World) (ts : Array TypeId) (t : TypeId) (n : Int) : (Builtin.min_ ts t #[.int .i64 n, .int .i64 1048576]).run Try.prog w = .ok (.int .i64 (cap20 n)) w := by
  rw [run_min_int2]; rfl
theorem cap20_bd (n : Nat) : 0 ≤ cap20 n ∧ cap20 n ≤ 1048576 ∧ cap20 n ≤ n := by unfold cap20; split <;> omega
theorem cap20_is {n : Nat} (h : cap20 n ≤ 2048) : cap20 n = n := by unfold cap20 at *; split at h <;> omega

/-- What a bound answers. -/
def Tells (P : Prop) (w : World) (e : Ending) (w' : World) : Prop := ∃ b, e = .returned (.bool b) ∧ (b = false → P) ∧ Below w.heap.size w w'

set_option maxRecDepth 100000 in
set_option maxHeartbeats 1000000 in
theorem large_any (v : Value) (ls : List Lab) (w : World) (hv : Labels w v ls) :
    Calls Try.prog 16 #[v] w (Tells (ls.length + wt ls ≤ 2048) w) := by
  have HV := Lib.hid hv
  obtain ⟨a, cap, rfl, h1, h2, -⟩ := hv
  have hmin := min20
  have b0 := cap20_bd ls.length
  have H0 := Lib.hid (fun h => cap20_is (n := ls.length) h)
  go_enter Try.func16, Try.ntmps16
  go_wp2_with fail
  go_loopw [3, 4] (fun n i wr => ∃ (k : Nat) (t : Int), k ≤ ls.length ∧ i = .int .i64 k ∧ n = .int .i64 t ∧ 0 ≤ t ∧ t ≤ 3000000 ∧ (t ≤ 2048 → (ls.length : Int) + (wt (ls.take k) : Int) ≤ t) ∧ Below w.heap.size w wr)
    (fun _ i _ => ls.length - (intOf i).toNat)
  case atStart => exact ⟨0, _, Nat.zero_le _, rfl, rfl, b0.1, by omega, fun h => by rw [H0.out h]; simp [wt], Below.refl _ _⟩
  case round =>
    obtain ⟨k, t, hk, rfl, rfl, ht0, ht, hg, hbel⟩ := hrel
    have HG := Lib.hid hg
    clear hg
    by_cases hlt : k < ls.length
    · by_cases ht2 : t ≤ 2048
      · obtain ⟨b, off, rfl, hb, hc1, hc2⟩ := (HV.out.below hbel).at_ hlt
        have HW := Lib.hid (wt_succ hlt)
        generalize (ls.getD k ([], [])).1 = n at *
        generalize (ls.getD k ([], [])).2 = x at *
        have b1 := cap20_bd n.length
        have b2 := cap20_bd x.length
        have HE := Lib.hid (show t + (cap20 n.length + cap20 x.length) ≤ 2048 → (ls.length : Int) + (wt (ls.take (k + 1)) : Int) ≤ t + (cap20 n.length + cap20 x.length) from fun h => by
          have g := HG.out ht2
          rw [HW.out, cap20_is (n := n.length) (by omega), cap20_is (n := x.length) (by omega)]
          omega)
        go_wp2_with fail
        go_quiet (fail)
        go_wp2_with fail
        go_roundw
        case rel => exact ⟨k + 1, _, by omega, by go_num, rfl, by omega, by omega, HE.out, below_drewN hbel _⟩
        case measure => simp [intOf]; omega
      · go_wp2_with fail
        go_ret
        exact ⟨_, rfl, fun h => by simp at h, hbel⟩
    · by_cases ht2 : t ≤ 2048
      · have HE := Lib.hid (show ls.length + wt ls ≤ 2048 by
          have g := HG.out ht2
          rw [List.take_of_length_le (by omega)] at g; omega)
        go_wp2_with fail
        go_ret
        exact ⟨_, rfl, fun _ => HE.out, hbel⟩
      · go_wp2_with fail
        go_ret
        exact ⟨_, rfl, fun h => by simp at h, hbel⟩

set_option maxRecDepth 100000 in
set_option maxHeartbeats 1000000 in
theorem heavy4_any (v : Value) (ls : List Lab) (w : World) (hv : Labels w v ls) :
    Calls Try.prog 35 #[v] w (Tells (ls.length + wt ls ≤ 2048) w) := by
  have HV := Lib.hid hv
  obtain ⟨a, cap, rfl, h1, h2, -⟩ := hv
  have hmin := min20
  have b0 := cap20_bd ls.length
  have H0 := Lib.hid (fun h => cap20_is (n := ls.length) h)
  go_enter Try.func35, Try.ntmps35
  go_wp2_with fail
  go_loopw [3, 4] (fun n i wr => ∃ (k : Nat) (t : Int), k ≤ ls.length ∧ i = .int .i64 k ∧ n = .int .i64 t ∧ 0 ≤ t ∧ t ≤ 3000000 ∧ (t ≤ 2048 → (ls.length : Int) + (wt (ls.take k) : Int) ≤ t) ∧ Below w.heap.size w wr)
    (fun _ i _ => ls.length - (intOf i).toNat)
  case atStart => exact ⟨0, _, Nat.zero_le _, rfl, rfl, b0.1, by omega, fun h => by rw [H0.out h]; simp [wt], Below.refl _ _⟩
  case round =>
    obtain ⟨k, t, hk, rfl, rfl, ht0, ht, hg, hbel⟩ := hrel
    have HG := Lib.hid hg
    clear hg
    by_cases hlt : k < ls.length
    · by_cases ht2 : t ≤ 2048
      · obtain ⟨b, off, rfl, hb, hc1, hc2⟩ := (HV.out.below hbel).at_ hlt
        have HW := Lib.hid (wt_succ hlt)
        generalize (ls.getD k ([], [])).1 = n at *
        generalize (ls.getD k ([], [])).2 = x at *
        have b1 := cap20_bd n.length
        have b2 := cap20_bd x.length
        have HE := Lib.hid (show t + (cap20 n.length + cap20 x.length) ≤ 2048 → (ls.length : Int) + (wt (ls.take (k + 1)) : Int) ≤ t + (cap20 n.length + cap20 x.length) from fun h => by
          have g := HG.out ht2
          rw [HW.out, cap20_is (n := n.length) (by omega), cap20_is (n := x.length) (by omega)]
          omega)
        go_wp2_with fail
        go_quiet (fail)
        go_wp2_with fail
        go_roundw
        case rel => exact ⟨k + 1, _, by omega, by go_num, rfl, by omega, by omega, HE.out, below_drewN hbel _⟩
        case measure => simp [intOf]; omega
      · go_wp2_with fail
        go_ret
        exact ⟨_, rfl, fun h => by simp at h, hbel⟩
    · by_cases ht2 : t ≤ 2048
      · have HE := Lib.hid (show ls.length + wt ls ≤ 2048 by
          have g := HG.out ht2
          rw [List.take_of_length_le (by omega)] at g; omega)
        go_wp2_with fail
        go_ret
        exact ⟨_, rfl, fun _ => HE.out, hbel⟩
      · go_wp2_with fail
        go_ret
        exact ⟨_, rfl, fun h => by simp at h, hbel⟩

end Go.Proofs.Ytamdkmcdleilpaa
