/-
  Whether samples rise, both ways.
-/
import Derived.Test.YtilkcojfencggaaARTotal
set_option linter.unusedSimpArgs false
set_option linter.unusedVariables false
namespace Go.Proofs.Ytilkcojfencggaa
open Go.RowKit

def Rise (l : List Smp) : Prop := ∀ i, i + 1 < l.length → (l.getD i (0, 0)).1 < (l.getD (i + 1) (0, 0)).1
theorem riseB_iff : ∀ l : List Smp, riseB l = true ↔ Rise l := by
  intro l
  induction l with
  | nil => exact ⟨fun _ i hi => by simp at hi, fun _ => rfl⟩
  | cons x r ih =>
    cases r with
    | nil => exact ⟨fun _ i hi => by simp at hi, fun _ => rfl⟩
    | cons y s =>
      have e : riseB (x :: y :: s) = (decide (x.1 < y.1) && riseB (y :: s)) := rfl
      rw [e, Bool.and_eq_true, ih, decide_eq_true_eq]
      constructor
      · rintro ⟨h1, h2⟩ i hi
        cases i with
        | zero => exact h1
        | succ j => exact h2 j (by simpa using hi)
      · intro h
        refine ⟨h 0 (by simp), fun i hi => ?_⟩
        exact h (i + 1) (by simp at hi ⊢; omega)
theorem riseB_no {l : List Smp} {i : Nat} (hi : i + 1 < l.length) (h : (l.getD (i + 1) (0, 0)).1 ≤ (l.getD i (0, 0)).1) : riseB l = false := by
  cases e : riseB l with
  | false => rfl
  | true => have := (riseB_iff l).1 e i hi; omega

def cmpI (x y : Int) : Int := if x < y then -1 else if y < x then 1 else 0

set_option maxRecDepth 100000 in
theorem nan_any (x : Int) (w : World) : Calls Try.prog 29 #[.int .i64 x] w fun e w' => e = .returned (.bool false) ∧ w = w' := by
  go_enter Try.func29, Try.ntmps29
  go_wp2_with fail
  go_ret
  exact ⟨by simp, rfl⟩
set_option maxRecDepth 100000 in
theorem cmp_any (x y : Int) (w : World) : Calls Try.prog 26 #[.int .i64 x, .int .i64 y] w fun e w' => e = .returned (.int .i64 (cmpI x y)) ∧ w = w' := by
  have h1 : x < y ∨ (¬ x < y ∧ y < x) ∨ (¬ x < y ∧ ¬ y < x) := by omega
  have HE : Hid (∀ z, cmpI x y = z → cmpI x y = z) := Lib.hid fun _ h => h
  go_enter Try.func26, Try.ntmps26
  go_wp2_with fail
  refine (nan_any x _).mono ?_
  rintro e w1 ⟨rfl, rfl⟩
  go_wp2_with fail
  refine (nan_any y _).mono ?_
  rintro e w1 ⟨rfl, rfl⟩
  rcases h1 with h1 | ⟨h1, h2⟩ | ⟨h1, h2⟩
  · have h1' : ¬ y < x := by omega
    go_wp2_with fail
    go_ret
    exact ⟨by simp [cmpI, h1], rfl⟩
  · go_wp2_with fail
    go_ret
    exact ⟨by simp [cmpI, h1, h2], rfl⟩
  · have h3 : cmpI x y = 0 := by unfold cmpI; rw [if_neg (by omega), if_neg (by omega)]
    go_wp2_with fail
    go_ret
    exact ⟨by rw [h3]; rfl, rfl⟩

set_option maxRecDepth 100000 in
theorem byTime_any (a b c d : Int) (w : World) :
    Calls Try.prog 20 #[.agg #[.int .i64 a, .int .i64 b], .agg #[.int .i64 c, .int .i64 d]] w fun e w' => e = .returned (.int .i64 (cmpI a c)) ∧ Below w.heap.size w w' := by
  go_enter Try.func20, Try.ntmps20
  go_wp2_with fail
  refine (cmp_any a c _).mono ?_
  rintro e w1 ⟨rfl, rfl⟩
  go_wp2_with fail
  go_ret
  exact ⟨rfl, ((Below.refl _ _).alloc (Nat.le_refl _) _).alloc (by simp) _⟩

theorem belowN {B : Nat} {a w : World} (h : Below B a w) (n : Nat) : Below B a (w.drewN n) := ⟨h.os, h.tape, h.output, h.size, h.block⟩
theorem below_dr {w w' : World} {n : Nat} (h : Below (w.drewN n).heap.size (w.drewN n) w') : Below w.heap.size w w' :=
  Below.trans (b := w.drewN n) ⟨rfl, rfl, rfl, Nat.le_refl _, fun _ _ => rfl⟩ h
theorem keepS {b o1 o2 o3 o4 : Nat} {c1 c2 c3 c4 : Value} {w w' : World} (h : w.cell? ⟨b, o1, none⟩ = some c1 ∧ w.cell? ⟨b, o2, none⟩ = some c2 ∧ w.cell? ⟨b, o3, none⟩ = some c3 ∧ w.cell? ⟨b, o4, none⟩ = some c4) (hb : Below w.heap.size w w') :
    w'.cell? ⟨b, o1, none⟩ = some c1 ∧ w'.cell? ⟨b, o2, none⟩ = some c2 ∧ w'.cell? ⟨b, o3, none⟩ = some c3 ∧ w'.cell? ⟨b, o4, none⟩ = some c4 := by
  have hlt : b < w.heap.size := World.block_lt_of_cell? w _ h.1
  exact ⟨(hb.cell (p := ⟨b, o1, none⟩) hlt).trans h.1, (hb.cell (p := ⟨b, o2, none⟩) hlt).trans h.2.1, (hb.cell (p := ⟨b, o3, none⟩) hlt).trans h.2.2.1, (hb.cell (p := ⟨b, o4, none⟩) hlt).trans h.2.2.2⟩

set_option maxRecDepth 100000 in
set_option maxHeartbeats 1000000 in
attribute [local go_sem ↓] Go.wp_at_zero Go.wp_at_succ in
theorem rises_any (v : Value) (ls : List Smp) (w : World) (hv : Samples w v ls) :
    Calls Try.prog 15 #[v] w fun e w' => e = .returned (.bool (riseB ls)) ∧ Below w.heap.size w w' := by
  have HV := Lib.hid hv
  obtain ⟨a, cap, rfl, h1, h2, -⟩ := hv
  go_enter Try.func15, Try.ntmps15
  go_wp2_with fail
  go_loopw [6, 3] (fun i p wr => ∃ k : Nat, k ≤ ls.length ∧ i = .int .i64 k ∧ Below w.heap.size w wr ∧ ∀ j, j + 1 < k → (ls.getD j (0, 0)).1 < (ls.getD (j + 1) (0, 0)).1)
    (fun i p wr => ls.length - (intOf i).toNat)
  case atStart => exact ⟨0, Nat.zero_le _, rfl, Below.refl _ _, fun j hj => by omega⟩
  case round =>
    obtain ⟨k, hk, rfl, hB0, hR0⟩ := hrel
    have HB := Lib.hid hB0
    have HR := Lib.hid hR0
    clear hB0 hR0
    by_cases hlt : k < ls.length
    · cases k with
      | zero =>
        go_wp2_with fail
        go_quiet (fail)
        go_wp2_with fail
        exact ⟨⟨1, by omega, rfl, belowN HB.out _, fun j hj => by omega⟩, by simp [intOf]; omega⟩
      | succ j =>
        obtain ⟨b, off, rfl, hb, hc1, hc2⟩ := (HV.out.below HB.out).at_ (i := j) (by omega)
        obtain ⟨b', off', hbb, -, hd1, hd2⟩ := (HV.out.below HB.out).at_ (i := j + 1) (by omega)
        obtain ⟨rfl, rfl⟩ : b = b' ∧ off = off' := by simpa using hbb
        clear hbb
        have HE := Lib.hid (fun hle => riseB_no (l := ls) (i := j) (by omega) hle)
        have HN := Lib.hid (fun (hlt : (ls.getD j (0, 0)).1 < (ls.getD (j + 1) (0, 0)).1) (i : Nat) (hi : i + 1 < j + 1 + 1) => show (ls.getD i (0, 0)).1 < (ls.getD (i + 1) (0, 0)).1 by
          rcases Nat.lt_or_ge (i + 1) (j + 1) with h | h
          · exact HR.out i h
          · have : i = j := by omega
            rw [this]; exact hlt)
        clear HR
        generalize (ls.getD j (0, 0)).1 = x0 at hc1 HE HN
        generalize (ls.getD j (0, 0)).2 = v0 at hc2
        generalize (ls.getD (j + 1) (0, 0)).1 = x1 at hd1 HE HN
        generalize (ls.getD (j + 1) (0, 0)).2 = v1 at hd2
        have HC := Lib.hid (fun w => byTime_any x0 v0 x1 v1 w)
        have hw1 : IntKind.i64.wrap ((j : Int) + 1 - 1) = (j : Int) := by rw [IntWalk.i64_in _ (by omega)]; omega
        have hw2 : IntKind.i64.wrap (j : Int) = (j : Int) := IntWalk.i64_in _ (by omega)
        have hj0 : (0 : Int) ≤ (j : Int) := by omega
        have hj1 : (j : Int) + 1 < (ls.length : Int) := by omega
        have hj2 : (j : Int) < (ls.length : Int) := by omega
        have hj3 : (0 : Int) ≤ (j : Int) + 1 := by omega
        by_cases hle : x1 ≤ x0
        · have HE2 := Lib.hid (HE.out hle)
          have hcm : ∃ z, cmpI x0 x1 = z ∧ 0 ≤ z := ⟨_, rfl, by unfold cmpI; split <;> (try split) <;> omega⟩
          obtain ⟨z, hz, hz0⟩ := hcm
          rw [hz] at HC
          clear hz
          go_wp2_with fail
          go_region_held3 (fun w' => w'.cell? ⟨b, off + j * 2, none⟩ = some (.int .i64 x0) ∧ w'.cell? ⟨b, off + j * 2 + 1, none⟩ = some (.int .i64 v0) ∧ w'.cell? ⟨b, off + (j + 1) * 2, none⟩ = some (.int .i64 x1) ∧ w'.cell? ⟨b, off + (j + 1) * 2 + 1, none⟩ = some (.int .i64 v1))
            (first | exact keepS (by assumption) hb1 | go_keep)
            (first | (go_at_call 20; refine (HC.out _).mono ?_; rintro e w2 ⟨rfl, hb1⟩))
          all_goals
            (go_wp2_with fail
             go_ret
             exact ⟨by rw [HE2.out]; rfl, HB.out.trans ((below_dr hb1).mono HB.out.size)⟩)
        · have HN2 := Lib.hid (HN.out (by omega))
          have hcm : cmpI x0 x1 = -1 := by unfold cmpI; rw [if_pos (by omega)]
          rw [hcm] at HC
          go_wp2_with fail
          go_region_held3 (fun w' => w'.cell? ⟨b, off + j * 2, none⟩ = some (.int .i64 x0) ∧ w'.cell? ⟨b, off + j * 2 + 1, none⟩ = some (.int .i64 v0) ∧ w'.cell? ⟨b, off + (j + 1) * 2, none⟩ = some (.int .i64 x1) ∧ w'.cell? ⟨b, off + (j + 1) * 2 + 1, none⟩ = some (.int .i64 v1))
            (first | exact keepS (by assumption) hb1 | go_keep)
            (first | (go_at_call 20; refine (HC.out _).mono ?_; rintro e w2 ⟨rfl, hb1⟩))
          all_goals
            (go_wp2_with fail
             go_roundw
             case rel => exact ⟨j + 1 + 1, by omega, by go_num, HB.out.trans ((below_dr hb1).mono HB.out.size), HN2.out⟩
             case measure => simp [intOf]; omega)
    · have hke : k = ls.length := by omega
      have HE := Lib.hid ((riseB_iff ls).2 fun i hi => HR.out i (by omega))
      go_wp2_with fail
      go_ret
      exact ⟨by rw [HE.out]; rfl, HB.out⟩

set_option maxRecDepth 100000 in
set_option maxHeartbeats 1000000 in
theorem refRises_any (v : Value) (ls : List Smp) (w : World) (hv : Samples w v ls) :
    Calls Try.prog 13 #[v] w fun e w' => e = .returned (.bool (riseB ls)) ∧ Below w.heap.size w w' := by
  have HV := Lib.hid hv
  obtain ⟨a, cap, rfl, h1, h2, -⟩ := hv
  go_enter Try.func13, Try.ntmps13
  go_wp2_with fail
  go_loopw [3] (fun i wr => ∃ k : Nat, (k ≤ ls.length ∨ k = 1) ∧ i = .int .i64 ((k : Nat) + 1 : Int) ∧ Below w.heap.size w wr ∧ ∀ j, j < k → j + 1 < ls.length → (ls.getD j (0, 0)).1 < (ls.getD (j + 1) (0, 0)).1)
    (fun i wr => ls.length + 1 - (intOf i).toNat)
  case atStart => exact ⟨0, .inl (Nat.zero_le _), rfl, Below.refl _ _, fun j hj => by omega⟩
  case round =>
    obtain ⟨k, hk, rfl, hB0, hR0⟩ := hrel
    have HB := Lib.hid hB0
    have HR := Lib.hid hR0
    clear hB0 hR0
    by_cases hlt : k + 1 < ls.length
    · obtain ⟨b, off, rfl, hb, hc1, hc2⟩ := (HV.out.below HB.out).at_ (i := k) (by omega)
      obtain ⟨b', off', hbb, -, hd1, hd2⟩ := (HV.out.below HB.out).at_ (i := k + 1) (by omega)
      obtain ⟨rfl, rfl⟩ : b = b' ∧ off = off' := by simpa using hbb
      clear hbb
      have HE := Lib.hid (fun hle => riseB_no (l := ls) (i := k) (by omega) hle)
      have HN := Lib.hid (fun (hlt : (ls.getD k (0, 0)).1 < (ls.getD (k + 1) (0, 0)).1) (i : Nat) (hi : i < k + 1) (hi2 : i + 1 < ls.length) => show (ls.getD i (0, 0)).1 < (ls.getD (i + 1) (0, 0)).1 by
        rcases Nat.lt_or_ge i k with h | h
        · exact HR.out i h hi2
        · have : i = k := by omega
          rw [this]; exact hlt)
      clear HR
      generalize (ls.getD k (0, 0)).1 = x0 at hc1 HE HN
      generalize (ls.getD k (0, 0)).2 = v0 at hc2
      generalize (ls.getD (k + 1) (0, 0)).1 = x1 at hd1 HE HN
      generalize (ls.getD (k + 1) (0, 0)).2 = v1 at hd2
      by_cases hle : x1 ≤ x0
      · have HE2 := Lib.hid (HE.out hle)
        go_wp2_with fail
        go_quiet (fail)
        go_wp2_with fail
        go_ret
        exact ⟨by rw [HE2.out]; rfl, belowN HB.out _⟩
      · have HN2 := Lib.hid (HN.out (by omega))
        go_wp2_with fail
        go_quiet (fail)
        go_wp2_with fail
        exact ⟨⟨k + 1, by omega, by go_num, belowN HB.out _, HN2.out⟩, by simp [intOf]; omega⟩
    · have HE := Lib.hid ((riseB_iff ls).2 fun i hi => HR.out i (by omega) hi)
      go_wp2_with fail
      go_ret
      exact ⟨by rw [HE.out]; rfl, HB.out⟩

end Go.Proofs.Ytilkcojfencggaa
