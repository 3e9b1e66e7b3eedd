/-
  Slices of samples and of windows; agg.of, agg.Join.
-/
import Derived.Test.YtilkcojfencggaaState
import Derived.IntWalk
import Derived.Lib.MinMax
import Derived.Deep.AppendLies
import Derived.OwnWalk
import Derived.Deep.RegionHeld3
set_option linter.unusedSimpArgs false
set_option linter.unusedVariables false
namespace Go.Proofs.Ytilkcojfencggaa
open Go.RowKit

/-- A sample: its time, its value. -/
abbrev Smp := Int × Int
structure Win where
  f : Int
  c : Int
  s : Int
  mn : Int
  mx : Int

def smpV (x : Smp) : Value := .agg #[.int .i64 x.1, .int .i64 x.2]
def winV (x : Win) : Value := .agg #[.int .i64 x.f, .int .i64 x.c, .int .i64 x.s, .int .i64 x.mn, .int .i64 x.mx]
def rngV (f t : Int) : Value := .agg #[.int .i64 f, .int .i64 t]
def w0 : Win := ⟨0, 0, 0, 0, 0⟩

def Samples (w : World) (v : Value) (ls : List Smp) : Prop :=
  ∃ a cap, v = .slice a ls.length cap ∧ ls.length ≤ cap ∧ cap ≤ 9223372036854775807 ∧
    (ls ≠ [] → ∃ b off, a = some ⟨b, off, none⟩ ∧ b < w.heap.size ∧ ∀ i, i < ls.length →
      w.cell? ⟨b, off + i * 2, none⟩ = some (.int .i64 (ls.getD i (0, 0)).1) ∧ w.cell? ⟨b, off + i * 2 + 1, none⟩ = some (.int .i64 (ls.getD i (0, 0)).2))

theorem Samples.below {w w' : World} {v : Value} {ls : List Smp} (h : Samples w v ls) (hb : Below w.heap.size w w') : Samples w' v ls := by
  obtain ⟨a, cap, hv, h1, h2, h3⟩ := h
  refine ⟨a, cap, hv, h1, h2, fun hx => ?_⟩
  obtain ⟨b, off, ha, hlt, hc⟩ := h3 hx
  refine ⟨b, off, ha, Nat.lt_of_lt_of_le hlt hb.size, fun i hi => ?_⟩
  exact ⟨(hb.cell (p := ⟨b, off + i * 2, none⟩) hlt).trans (hc i hi).1, (hb.cell (p := ⟨b, off + i * 2 + 1, none⟩) hlt).trans (hc i hi).2⟩
theorem Samples.at_ {w : World} {a : Option Addr} {n cap : Nat} {ls : List Smp} (h : Samples w (.slice a n cap) ls) {i : Nat} (hi : i < ls.length) :
    ∃ b off, a = some ⟨b, off, none⟩ ∧ b < w.heap.size ∧ w.cell? ⟨b, off + i * 2, none⟩ = some (.int .i64 (ls.getD i (0, 0)).1) ∧ w.cell? ⟨b, off + i * 2 + 1, none⟩ = some (.int .i64 (ls.getD i (0, 0)).2) := by
  obtain ⟨a', cap', hv, h1, h2, h3⟩ := h
  obtain ⟨b, off, ha, hlt, hc⟩ := h3 (by intro e; subst e; simp at hi)
  simp only [Value.slice.injEq] at hv
  obtain ⟨rfl, _, rfl⟩ := hv
  exact ⟨b, off, ha, hlt, (hc i hi).1, (hc i hi).2⟩
theorem Samples.nil (w : World) : Samples w (.slice none 0 0) [] := ⟨none, 0, rfl, Nat.le_refl _, by omega, fun h => absurd rfl h⟩

/-- Windows of either kind: five cells each. -/
def Wins (w : World) (v : Value) (ls : List Win) : Prop :=
  ∃ a cap, v = .slice a ls.length cap ∧ ls.length ≤ cap ∧ cap ≤ 9223372036854775807 ∧
    (ls ≠ [] → ∃ b off, a = some ⟨b, off, none⟩ ∧ b < w.heap.size ∧ ∀ i, i < ls.length →
      w.cell? ⟨b, off + i * 5, none⟩ = some (.int .i64 (ls.getD i w0).f) ∧ w.cell? ⟨b, off + i * 5 + 1, none⟩ = some (.int .i64 (ls.getD i w0).c) ∧
      w.cell? ⟨b, off + i * 5 + 2, none⟩ = some (.int .i64 (ls.getD i w0).s) ∧ w.cell? ⟨b, off + i * 5 + 3, none⟩ = some (.int .i64 (ls.getD i w0).mn) ∧
      w.cell? ⟨b, off + i * 5 + 4, none⟩ = some (.int .i64 (ls.getD i w0).mx))

theorem Wins.below {w w' : World} {v : Value} {ls : List Win} (h : Wins w v ls) (hb : Below w.heap.size w w') : Wins w' v ls := by
  obtain ⟨a, cap, hv, h1, h2, h3⟩ := h
  refine ⟨a, cap, hv, h1, h2, fun hx => ?_⟩
  obtain ⟨b, off, ha, hlt, hc⟩ := h3 hx
  refine ⟨b, off, ha, Nat.lt_of_lt_of_le hlt hb.size, fun i hi => ?_⟩
  have hq : ∀ j, w'.cell? ⟨b, j, none⟩ = w.cell? ⟨b, j, none⟩ := fun j => hb.cell (p := ⟨b, j, none⟩) hlt
  simp only [hq]
  exact hc i hi
theorem Wins.at_ {w : World} {a : Option Addr} {n cap : Nat} {ls : List Win} (h : Wins w (.slice a n cap) ls) {i : Nat} (hi : i < ls.length) :
    ∃ b off, a = some ⟨b, off, none⟩ ∧ b < w.heap.size ∧
      w.cell? ⟨b, off + i * 5, none⟩ = some (.int .i64 (ls.getD i w0).f) ∧ w.cell? ⟨b, off + i * 5 + 1, none⟩ = some (.int .i64 (ls.getD i w0).c) ∧
      w.cell? ⟨b, off + i * 5 + 2, none⟩ = some (.int .i64 (ls.getD i w0).s) ∧ w.cell? ⟨b, off + i * 5 + 3, none⟩ = some (.int .i64 (ls.getD i w0).mn) ∧
      w.cell? ⟨b, off + i * 5 + 4, none⟩ = some (.int .i64 (ls.getD i w0).mx) := by
  obtain ⟨a', cap', hv, h1, h2, h3⟩ := h
  obtain ⟨b, off, ha, hlt, hc⟩ := h3 (by intro e; subst e; simp at hi)
  simp only [Value.slice.injEq] at hv
  obtain ⟨rfl, _, rfl⟩ := hv
  exact ⟨b, off, ha, hlt, hc i hi⟩
theorem Wins.nil (w : World) : Wins w (.slice none 0 0) [] := ⟨none, 0, rfl, Nat.le_refl _, by omega, fun h => absurd rfl h⟩

/-- l[i:n] -/
theorem part_run {w : World} {l : List Smp} {a : Option Addr} {m c : Nat} (h : Samples w (.slice a m c) l) (i n : Nat) (hi : i < n) (hn : n ≤ l.length) :
    ∃ u, (∀ w', (Instr.sliceAt 22 (.slice a m c) (some (.int .i64 i)) (some (.int .i64 n)) none).run Try.prog w' = .ok u w') ∧ Samples w u ((l.drop i).take (n - i)) := by
  obtain ⟨a, c, hv, h1, h2, h3⟩ := h
  rw [hv]
  refine ⟨.slice (if c = i then a else a.map (·.add (i * 2))) (n - i) (c - i), fun w' => ?_, ?_⟩
  · rw [run_sliceAt_slice _ _ _ _ _ _ rfl, run_slice_lh _ _ _ _ _ rfl _ _ _ _ (by omega) (by omega) (by omega)]
    rfl
  · have hl : ((l.drop i).take (n - i)).length = n - i := by simp; omega
    refine ⟨_, c - i, by rw [hl], by rw [hl]; omega, by omega, fun hne => ?_⟩
    obtain ⟨b, off, rfl, hb, hc⟩ := h3 (by intro e; subst e; simp at hn; omega)
    refine ⟨b, off + i * 2, ?_, hb, fun k hk => ?_⟩
    · rw [if_neg (by omega)]
      simp [Addr.add_lit]
    · rw [hl] at hk
      have e : ((l.drop i).take (n - i)).getD k (0, 0) = l.getD (i + k) (0, 0) := by
        simp [List.getD, List.getElem?_take, hk, List.getElem?_drop]
      rw [e, Nat.add_assoc, show i * 2 + k * 2 = (i + k) * 2 by omega]
      exact hc (i + k) (by omega)

def joinW (a b : Win) : Win :=
  if a.c = 0 then b else if b.c = 0 then a else ⟨min a.f b.f, wrap64 (a.c + b.c), wrap64 (a.s + b.s), min a.mn b.mn, max a.mx b.mx⟩
def ofW (x : Smp) : Win := ⟨x.1, 1, x.2, x.2, x.2⟩

theorem ret_win {fn : Func} {p : Tmp} (h : fn.results = #[.cell p 34]) (tmps : Array Value) (w : World) (g : Nat) (a b c d e : Value)
    (hp : tmps.getD p undef = .pointer (some ⟨g, 0, none⟩)) (hg : w.heap[g]? = some (.cells #[a, b, c, d, e] 34 (0, 0))) :
    (results fn tmps).run Try.prog w = .ok (.agg #[a, b, c, d, e]) w :=
  results_cell_row h tmps w g _ _ _ _ hp hg Try.underlying34 rfl (by kernel_rfl)

theorem heap_new3 (w : World) (A B C : Obj) : (((w.alloc A).alloc B).alloc C).heap[w.heap.size + 1 + 1]? = some C := by
  have := heap_alloc_new ((w.alloc A).alloc B) C
  rwa [World.size_alloc, World.size_alloc] at this
theorem below_new3 (w : World) (A B C : Obj) : Below w.heap.size w (((w.alloc A).alloc B).alloc C) :=
  (((Below.refl _ _).alloc (Nat.le_refl _) _).alloc (by simp) _).alloc (by simp; omega) _

set_option maxRecDepth 100000 in
theorem of_any (t v : Int) (w : World) :
    Calls Try.prog 18 #[.agg #[.int .i64 t, .int .i64 v]] w fun e w' => e = .returned (.agg #[.int .i64 t, .int .i64 1, .int .i64 v, .int .i64 v, .int .i64 v]) ∧ Below w.heap.size w w' := by
  go_enter Try.func18, Try.ntmps18
  go_wp2_with fail
  refine bodyPost_ret (ret_win rfl _ _ (w.heap.size + 1) _ _ _ _ _ rfl (by have := heap_alloc_new (w.alloc (Obj.cells #[Value.int IntKind.i64 t, Value.int IntKind.i64 v] 37)) (.cells #[.int .i64 t, .int .i64 1, .int .i64 v, .int .i64 v, .int .i64 v] 34); rw [World.size_alloc] at this; exact this)) rfl ?_
  exact ⟨rfl, ((Below.refl _ _).alloc (Nat.le_refl _) _).alloc (by simp) _⟩

set_option maxRecDepth 100000 in
set_option maxHeartbeats 1000000 in
theorem join_any (x y : Win) (w : World) :
    Calls Try.prog 12 #[winV x, winV y] w fun e w' => e = .returned (winV (joinW x y)) ∧ Below w.heap.size w w' := by
  obtain ⟨a1, a2, a3, a4, a5⟩ := x
  obtain ⟨b1, b2, b3, b4, b5⟩ := y
  simp only [winV, joinW]
  go_enter Try.func12, Try.ntmps12
  by_cases h1 : a2 = 0
  · have h1' : (a2 == 0) = true := by simp [h1]
    rw [if_pos h1]
    go_wp2_with fail
    refine bodyPost_ret (ret_win rfl _ _ _ _ _ _ _ _ rfl (heap_new3 ..)) rfl ?_
    exact ⟨rfl, below_new3 ..⟩
  · have h1' : (a2 == 0) = false := by simp [h1]
    rw [if_neg h1]
    by_cases h2 : b2 = 0
    · have h2' : (b2 == 0) = true := by simp [h2]
      rw [if_pos h2]
      go_wp2_with fail
      refine bodyPost_ret (ret_win rfl _ _ _ _ _ _ _ _ rfl (heap_new3 ..)) rfl ?_
      exact ⟨rfl, below_new3 ..⟩
    · have h2' : (b2 == 0) = false := by simp [h2]
      rw [if_neg h2]
      go_wp2_with fail
      refine bodyPost_ret (ret_win rfl _ _ _ _ _ _ _ _ rfl (heap_new3 ..)) rfl ?_
      exact ⟨rfl, below_new3 ..⟩

end Go.Proofs.Ytilkcojfencggaa
