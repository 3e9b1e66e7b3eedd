/-
  series.In: the closures, slices.IndexFunc.
-/
import Derived.Test.YtilkcojfencggaaARef
import Derived.Laws.EntriesVeiled
set_option linter.unusedSimpArgs false
set_option linter.unusedVariables false
namespace Go.Proofs.Ytilkcojfencggaa
open Go.RowKit

theorem below_al {w w' : World} {o : Obj} (h : Below (w.alloc o).heap.size (w.alloc o) w') : Below w.heap.size w w' :=
  ((Below.refl _ _).alloc (Nat.le_refl _) _).trans (h.mono (by simp))
def clo (B : Nat) : Value := .func (.func 27) #[] #[.pointer (some ⟨B, 0, none⟩)]
def del (C : Nat) : Value := .func (.func 25) #[] #[.pointer (some ⟨C, 0, none⟩)]

set_option maxRecDepth 100000 in
theorem within_any (f t : Int) (w : World) :
    Calls Try.prog 22 #[.agg #[.int .i64 f, .int .i64 t]] w fun e w' => e = .returned (clo w.heap.size) ∧ w' = w.alloc (.cells #[.int .i64 f, .int .i64 t] 24) := by
  go_enter Try.func22, Try.ntmps22
  go_wp2_with fail
  go_ret
  exact ⟨rfl, rfl⟩

set_option maxRecDepth 100000 in
theorem within1_any (x y f t : Int) (B : Nat) (w : World) (hb : RBx w B f t) :
    Calls Try.prog 27 #[.agg #[.int .i64 x, .int .i64 y], .pointer (some ⟨B, 0, none⟩)] w fun e w' => e = .returned (.bool (decide (f ≤ x) && decide (x < t))) ∧ Below w.heap.size w w' := by
  obtain ⟨g0, g1⟩ := hb.cells
  have hlt : B < w.heap.size := World.block_lt_of_cell? w _ g0
  go_enter Try.func27, Try.ntmps27
  by_cases h1 : f ≤ x
  · have h1' : decide (f ≤ x) = true := by simp [h1]
    by_cases h2 : x < t
    · have h2' : decide (x < t) = true := by simp [h2]
      go_wp2_with fail
      go_ret
      exact ⟨by simp [h1', h2'], (Below.refl _ _).alloc (Nat.le_refl _) _⟩
    · have h2' : decide (x < t) = false := by simp [h2]
      go_wp2_with fail
      go_ret
      exact ⟨by simp [h1', h2'], (Below.refl _ _).alloc (Nat.le_refl _) _⟩
  · have h1' : decide (f ≤ x) = false := by simp [h1]
    go_wp2_with fail
    go_ret
    exact ⟨by simp [h1'], (Below.refl _ _).alloc (Nat.le_refl _) _⟩

/-- The two closures' variables. -/
def Env (w : World) (C B : Nat) (f t : Int) : Prop := w.cell? ⟨C, 0, none⟩ = some (clo B) ∧ RBx w B f t
theorem Env.below {w w' : World} {C B : Nat} {f t : Int} (h : Env w C B f t) (hb : Below w.heap.size w w') : Env w' C B f t :=
  ⟨(hb.cell (p := ⟨C, 0, none⟩) (World.block_lt_of_cell? w _ h.1)).trans h.1, h.2.below hb⟩
theorem Env.below' {w w' : World} {C B n : Nat} {f t : Int} (h : Env w C B f t) (hb : Below n w w') (hC : C < n) (hB : B < n) : Env w' C B f t :=
  ⟨(hb.cell (p := ⟨C, 0, none⟩) hC).trans h.1, h.2.below' hb hB⟩

set_option maxRecDepth 100000 in
theorem in1_any (x y f t : Int) (C B : Nat) (w : World) (he : Env w C B f t) :
    Calls Try.prog 25 #[.agg #[.int .i64 x, .int .i64 y], .pointer (some ⟨C, 0, none⟩)] w fun e w' => e = .returned (.bool (!(inB f t (x, y)))) ∧ Below w.heap.size w w' := by
  have hc := he.1
  rw [clo] at hc
  have HE := Lib.hid (he.2.below ((Below.refl _ w).alloc (Nat.le_refl _) (.cells #[.int .i64 x, .int .i64 y] 37)))
  have HC := Lib.hid (fun w (h : RBx w B f t) => within1_any x y f t B w h)
  have hin : inB f t (x, y) = (decide (f ≤ x) && decide (x < t)) := rfl
  rw [hin]
  clear hin
  generalize (decide (f ≤ x) && decide (x < t)) = bb at *
  have hlt : C < w.heap.size := World.block_lt_of_cell? w _ hc
  clear he
  go_enter Try.func25, Try.ntmps25
  go_wp2_with (go_at_call 27; refine (HC.out _ HE.out).mono ?_; rintro e w1 ⟨rfl, hd⟩)
  go_ret
  exact ⟨rfl, below_al hd⟩

def badAt (f t : Int) (l : List Smp) : Nat := (l.takeWhile fun x => inB f t x).length
def idxL (f t : Int) (l : List Smp) : Int := if badAt f t l = l.length then -1 else badAt f t l

end Go.Proofs.Ytilkcojfencggaa
