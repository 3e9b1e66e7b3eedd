/-
  rice: Cost and Best.
-/
import Derived.Test.YtheenlomlmbjaaaGreatDoorTBitP
import Derived.IntWalk
import Derived.Lib.Builder
set_option linter.unusedSimpArgs false
set_option linter.unusedVariables false
namespace Go.Proofs.YtheenlomlmbjaaaGreatDoor
open Go.RowKit

def Nums (w : World) (v : Value) (l : List Nat) : Prop :=
  ∃ a cap, v = .slice a l.length cap ∧ l.length ≤ cap ∧ cap ≤ 9223372036854775807 ∧
    (l ≠ [] → ∃ b off, a = some ⟨b, off, none⟩ ∧ b < w.heap.size ∧ ∀ i, i < l.length → w.cell? ⟨b, off + i, none⟩ = some (.int .u64 (l.getD i 0)))

theorem Nums.below {w w' : World} {v : Value} {l : List Nat} (h : Nums w v l) (hb : Below w.heap.size w w') : Nums w' v l := by
  obtain ⟨a, cap, hv, h1, h2, h3⟩ := h
  refine ⟨a, cap, hv, h1, h2, fun hx => ?_⟩
  obtain ⟨b, off, ha, hlt, hc⟩ := h3 hx
  exact ⟨b, off, ha, Nat.lt_of_lt_of_le hlt hb.size, fun i hi => (hb.cell (p := ⟨b, off + i, none⟩) hlt).trans (hc i hi)⟩
theorem Nums.at_ {w : World} {a : Option Addr} {n cap : Nat} {l : List Nat} (h : Nums w (.slice a n cap) l) {i : Nat} (hi : i < l.length) :
    ∃ b off, a = some ⟨b, off, none⟩ ∧ b < w.heap.size ∧ w.cell? ⟨b, off + i, none⟩ = some (.int .u64 (l.getD i 0)) := by
  obtain ⟨a', cap', hv, h1, h2, h3⟩ := h
  obtain ⟨b, off, ha, hlt, hc⟩ := h3 (by intro e; subst e; simp at hi)
  simp only [Value.slice.injEq] at hv
  obtain ⟨rfl, _, rfl⟩ := hv
  exact ⟨b, off, ha, hlt, hc i hi⟩

theorem costL_take {l : List Nat} {i : Nat} (hi : i < l.length) (k : Nat) : costL (l.take (i + 1)) k = costL (l.take i) k + riceC (l.getD i 0) k := by
  rw [List.take_add_one, costL_app, List.getElem?_eq_getElem hi]
  simp [costL, List.getD, List.getElem?_eq_getElem hi]

set_option maxHeartbeats 800000 in
set_option maxRecDepth 100000 in
theorem cost_any (v : Value) (l : List Nat) (k : Nat) (w : World) (hv : Nums w v l) (hk : k ≤ 40) (hl : l.length ≤ 100000) (hu : ∀ x ∈ l, x < 18446744073709551616) :
    Calls Tryz.prog 333 #[v, .int .i64 k] w fun e w' => e = .returned (.int .i64 (costL l k)) ∧ w = w' := by
  obtain ⟨a, cap, rfl, hlc, hcm⟩ : ∃ a cap, v = .slice a l.length cap ∧ l.length ≤ cap ∧ cap ≤ 9223372036854775807 := by
    obtain ⟨a, cap, h1, h2, h3, _⟩ := hv
    exact ⟨a, cap, h1, h2, h3⟩
  have HV := Lib.hid hv
  have HU := Lib.hid hu
  clear hv hu
  go_enter Tryz.func333, Tryz.ntmps333
  go_wp2_with fail
  go_loop [17, 5] (fun x y => ∃ (i : Nat), x = .int .i64 i ∧ i ≤ l.length ∧ y = .int .i64 (costL (l.take i) k))
    (fun x y => l.length - (intOf x).toNat)
  case atStart => exact ⟨0, rfl, Nat.zero_le _, rfl⟩
  case round =>
    obtain ⟨i, rfl, hi, rfl⟩ := hrel
    have hcb := costL_le (l.take i) k hk
    rw [List.length_take] at hcb
    by_cases hlt : i < l.length
    · obtain ⟨b, off, rfl, hbs, hc⟩ := HV.out.at_ hlt
      have HT := Lib.hid (costL_take hlt k)
      have hx : l.getD i 0 < 18446744073709551616 := HU.out _ (by rw [List.getD_eq_getElem?_getD, List.getElem?_eq_getElem hlt]; exact List.getElem_mem ..)
      generalize l.getD i 0 = x at *
      generalize costL (l.take i) k = c at *
      have hq : ((x : Int) / 2 ^ k) = ((x / 2 ^ k : Nat) : Int) := by simp
      by_cases h24 : x / 2 ^ k < 24
      · have HE := Lib.hid (show riceC x k = x / 2 ^ k + 1 + k by unfold riceC; rw [if_pos h24])
        generalize x / 2 ^ k = q at *
        have d1 : (x : Int) / 2 ^ k < 24 := by rw [hq]; omega
        go_wp2_with fail
        go_round
        case rel => exact ⟨i + 1, by go_num, by omega, by rw [HT.out, HE.out]; go_num⟩
        case measure => simp [intOf]; omega
      · have HE := Lib.hid (show riceC x k = 88 by unfold riceC; rw [if_neg h24])
        generalize x / 2 ^ k = q at *
        have d1 : ¬ (x : Int) / 2 ^ k < 24 := by rw [hq]; omega
        go_wp2_with fail
        go_round
        case rel => exact ⟨i + 1, by go_num, by omega, by rw [HT.out, HE.out]; go_num⟩
        case measure => simp [intOf]; omega
    · have e : l.take i = l := List.take_of_length_le (by omega)
      rw [e]
      go_wp2_with fail
      go_ret
      exact ⟨rfl, rfl⟩

def bestS (l : List Nat) : Nat → Nat × Nat
  | 0 => (0, costL l 0)
  | k + 1 => if costL l (k + 1) < (bestS l k).2 then (k + 1, costL l (k + 1)) else bestS l k
def bestL (l : List Nat) : Nat := (bestS l 40).1
theorem bestS_le (l : List Nat) : ∀ k, (bestS l k).1 ≤ k ∧ (bestS l k).2 = costL l (bestS l k).1 ∧ (bestS l k).2 ≤ costL l 0
  | 0 => ⟨Nat.le_refl _, rfl, Nat.le_refl _⟩
  | k + 1 => by
    have ih := bestS_le l k
    unfold bestS
    split
    · exact ⟨Nat.le_refl _, rfl, by omega⟩
    · exact ⟨by omega, ih.2.1, ih.2.2⟩
theorem bestL_le (l : List Nat) : bestL l ≤ 40 := (bestS_le l 40).1
set_option maxHeartbeats 800000 in
set_option maxRecDepth 100000 in
theorem try_any (v : Value) (l : List Nat) (k b c : Nat) (p q r : Nat) (w : World) (hv : Nums w v l) (hk : k ≤ 40) (hl : l.length ≤ 100000) (hu : ∀ x ∈ l, x < 18446744073709551616)
    (h1 : w.heap[p]? = some (.cells #[v] 404 (0, 0))) (h2 : w.heap[q]? = some (.cells #[.int .i64 c] 3 (0, 0))) (h3 : w.heap[r]? = some (.cells #[.int .i64 b] 3 (0, 0))) (hc : c ≤ 8800000) (hne : q ≠ r) :
    Calls Tryz.prog 334 #[.int .i64 k, .pointer (some ⟨p, 0, none⟩), .pointer (some ⟨q, 0, none⟩), .pointer (some ⟨r, 0, none⟩)] w fun e w' => e = .returned (.tuple #[]) ∧
      w' = if costL l k < c then (w.setCell ⟨r, 0, none⟩ (.int .i64 k)).setCell ⟨q, 0, none⟩ (.int .i64 (costL l k)) else w := by
  have c1 : w.cell? ⟨p, 0, none⟩ = some v := by rw [Lib.cell_of_heap h1]; rfl
  have c2 : w.cell? ⟨q, 0, none⟩ = some (.int .i64 c) := by rw [Lib.cell_of_heap h2]; rfl
  have c3 : w.cell? ⟨r, 0, none⟩ = some (.int .i64 b) := by rw [Lib.cell_of_heap h3]; rfl
  have f2 := Lib.frozen_of_heap h2 0
  have f3 := Lib.frozen_of_heap h3 0
  have hne' : r ≠ q := fun e => hne e.symm
  clear h1 h2 h3
  by_cases hlt : costL l k < c
  · rw [if_pos hlt]
    go_enter Tryz.func334, Tryz.ntmps334
    go_wp2_with fail
    refine (cost_any v l k _ hv hk hl hu).mono ?_
    rintro e w1 ⟨rfl, rfl⟩
    go_wp2_with fail
    go_end0
    exact ⟨rfl, rfl⟩
  · rw [if_neg hlt]
    go_enter Tryz.func334, Tryz.ntmps334
    go_wp2_with fail
    refine (cost_any v l k _ hv hk hl hu).mono ?_
    rintro e w1 ⟨rfl, rfl⟩
    go_wp2_with fail
    go_end0
    exact ⟨rfl, rfl⟩

def BestI (l : List Nat) (v : Value) (N : Nat) (w : World) (i : Nat) (wr : World) : Prop :=
  wr.heap[N]? = some (.cells #[v] 404 (0, 0)) ∧ wr.heap[N + 1]? = some (.cells #[.int .i64 (bestS l i).1] 3 (0, 0)) ∧ wr.heap[N + 2]? = some (.cells #[.int .i64 (bestS l i).2] 3 (0, 0)) ∧ Below N w wr
theorem bestI_start (l : List Nat) (v : Value) (w : World) :
    BestI l v w.heap.size w 0 (((w.alloc (.cells #[v] 404)).alloc (.cells #[.int .i64 0] 3)).alloc (.cells #[.int .i64 (costL l 0)] 3)) := by
  refine ⟨?_, ?_, ?_, (((Below.refl _ _).alloc (Nat.le_refl _) _).alloc (by simp) _).alloc (by simp; omega) _⟩
  · rw [Lib.alloc_old _ _ _ (by simp; omega), Lib.alloc_old _ _ _ (by simp)]; exact heap_alloc_new _ _
  · rw [Lib.alloc_old _ _ _ (by simp)]; have h := heap_alloc_new (w.alloc (.cells #[v] 404)) (.cells #[.int .i64 0] 3); simpa [bestS] using h
  · have h := heap_alloc_new ((w.alloc (.cells #[v] 404)).alloc (.cells #[.int .i64 0] 3)) (.cells #[.int .i64 (costL l 0)] 3); simpa [bestS] using h
theorem bestI_step {l : List Nat} {v : Value} {N i : Nat} {w wr w' : World} (b1 : wr.heap[N]? = some (.cells #[v] 404 (0, 0))) (b2 : wr.heap[N + 1]? = some (.cells #[.int .i64 (bestS l i).1] 3 (0, 0)))
    (b3 : wr.heap[N + 2]? = some (.cells #[.int .i64 (bestS l i).2] 3 (0, 0))) (hb : Below N w wr)
    (h : w' = if costL l (i + 1) < (bestS l i).2 then (wr.setCell ⟨N + 1, 0, none⟩ (.int .i64 (i + 1 : Nat))).setCell ⟨N + 2, 0, none⟩ (.int .i64 (costL l (i + 1))) else wr) : BestI l v N w (i + 1) w' := by
  subst h
  unfold BestI
  rw [show bestS l (i + 1) = if costL l (i + 1) < (bestS l i).2 then (i + 1, costL l (i + 1)) else bestS l i from rfl]
  split
  · refine ⟨?_, ?_, ?_, (hb.setCell (p := ⟨N + 1, 0, none⟩) (by simp) _).setCell (p := ⟨N + 2, 0, none⟩) (by simp) _⟩
    · rw [Below.heap_setCell _ _ _ _ (by simp), Below.heap_setCell _ _ _ _ (by simp)]; exact b1
    · rw [Below.heap_setCell _ _ _ _ (by simp)]
      simp [World.setCell, Array.getElem?_modify, b2]
    · have b3' : (wr.setCell ⟨N + 1, 0, none⟩ (.int .i64 (i + 1 : Nat))).heap[N + 2]? = some (.cells #[.int .i64 (bestS l i).2] 3 (0, 0)) := by
        rw [Below.heap_setCell _ _ _ _ (by simp)]; exact b3
      simp [World.setCell, Array.getElem?_modify] at b3' ⊢
      simp [b3']
  · exact ⟨b1, b2, b3, hb⟩

set_option maxHeartbeats 800000 in
set_option maxRecDepth 100000 in
theorem best_any (v : Value) (l : List Nat) (w : World) (hv : Nums w v l) (hl : l.length ≤ 100000) (hu : ∀ x ∈ l, x < 18446744073709551616) :
    Calls Tryz.prog 302 #[v] w fun e w' => e = .returned (.int .i64 (bestL l)) ∧ Below w.heap.size w w' := by
  obtain ⟨a, cap, rfl, hlc, hcm⟩ : ∃ a cap, v = .slice a l.length cap ∧ l.length ≤ cap ∧ cap ≤ 9223372036854775807 := by
    obtain ⟨a, cap, h1, h2, h3, _⟩ := hv
    exact ⟨a, cap, h1, h2, h3⟩
  have HV := Lib.hid hv
  clear hv
  go_enter Tryz.func302, Tryz.ntmps302
  go_wp2_with fail
  refine (cost_any (.slice a l.length cap) l 0 _ (HV.out.below ((Below.refl _ _).alloc (Nat.le_refl _) _)) (by omega) hl hu).mono ?_
  rintro e w1 ⟨rfl, rfl⟩
  go_wp2_with fail
  have HI : Hid (BestI l (.slice a l.length cap) w.heap.size w 0 (((w.alloc (.cells #[.slice a l.length cap] 404)).alloc (.cells #[.int .i64 0] 3)).alloc (.cells #[.int .i64 (costL l 0)] 3))) := Lib.hid (bestI_start l _ w)
  generalize (((w.alloc (.cells #[.slice a l.length cap] 404)).alloc (.cells #[.int .i64 0] 3)).alloc (.cells #[.int .i64 (costL l 0)] 3)) = w1 at *
  obtain ⟨N, hN⟩ : ∃ N, N = w.heap.size := ⟨_, rfl⟩
  have HN := Lib.hid hN
  rw [← hN] at HI ⊢
  rw [show N + 1 + 1 = N + 2 from rfl]
  clear hN
  go_loopw [6] (fun x wr => ∃ (i : Nat), x = .int .i64 (i + 1 : Nat) ∧ i ≤ 40 ∧ BestI l (.slice a l.length cap) N w i wr)
    (fun x wr => 41 - (intOf x).toNat)
  case atStart => exact ⟨0, rfl, by omega, HI.out⟩
  case round =>
    obtain ⟨i, rfl, hi, hI⟩ := hrel
    obtain ⟨b1, b2, b3, hb⟩ := hI
    have hcb := costL_le l (bestS l i).1 (by have := (bestS_le l i).1; omega)
    rw [← (bestS_le l i).2.1] at hcb
    by_cases hlt : i < 40
    · have hn := HV.out.below (HN.out ▸ hb)
      have hT := try_any (.slice a l.length cap) l (i + 1) (bestS l i).1 (bestS l i).2 N (N + 2) (N + 1) wr hn (by omega) hl hu b1 b3 b2 (by omega) (by omega)
      have HT := Lib.hid hT
      have HR := Lib.hid (fun w' h => bestI_step (i := i) b1 b2 b3 hb (w' := w') h)
      clear hT b1 b2 b3 hb hn
      go_wp2_with fail
      refine HT.out.mono ?_
      rintro e w2 ⟨rfl, h2⟩
      have h3 := HR.out w2 h2
      have H3 := Lib.hid h3
      clear h2 h3
      go_wp2_with fail
      go_roundw
      case rel => exact ⟨i + 1, by go_num, by omega, H3.out⟩
      case measure => simp [intOf]; omega
    · have hi40 : i = 40 := by omega
      subst hi40
      have hc : wr.cell? ⟨N + 1, 0, none⟩ = some (.int .i64 (bestL l)) := by rw [Lib.cell_of_heap b2]; rfl
      have HB := Lib.hid hb
      clear b1 b2 b3 hb
      go_wp2_with fail
      go_ret
      exact ⟨rfl, HN.out ▸ HB.out⟩

end Go.Proofs.YtheenlomlmbjaaaGreatDoor
