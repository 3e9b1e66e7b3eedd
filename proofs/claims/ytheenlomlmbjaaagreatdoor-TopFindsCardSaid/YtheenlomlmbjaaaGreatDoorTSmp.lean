/-
  Slices of samples, rows that the call owns, comparisons.
-/
import Derived.Test.YtheenlomlmbjaaaGreatDoorTBytes
import Derived.Lib.MinMax
import Derived.Deep.AppendLies
import Derived.OwnWalk
import Derived.Deep.RegionHeld3
set_option linter.unusedSimpArgs false
set_option linter.unusedVariables false
namespace Go.Proofs.YtheenlomlmbjaaaGreatDoor
open Go.RowKit

abbrev Smp := Int × Int
def Samples (w : World) (v : Value) (ls : List Smp) : Prop :=
  ∃ a cap, v = .slice a ls.length cap ∧ ls.length ≤ cap ∧ cap ≤ 9223372036854775807 ∧
    (ls ≠ [] → ∃ b off, a = some ⟨b, off, none⟩ ∧ b < w.heap.size ∧ ∀ i, i < ls.length →
      w.cell? ⟨b, off + i * 2, none⟩ = some (.int .i64 (ls.getD i (0, 0)).1) ∧ w.cell? ⟨b, off + i * 2 + 1, none⟩ = some (.int .i64 (ls.getD i (0, 0)).2))

theorem Samples.below {w w' : World} {v : Value} {ls : List Smp} (h : Samples w v ls) (hb : Below w.heap.size w w') : Samples w' v ls := by
  obtain ⟨a, cap, hv, h1, h2, h3⟩ := h
  refine ⟨a, cap, hv, h1, h2, fun hx => ?_⟩
  obtain ⟨b, off, ha, hlt, hc⟩ := h3 hx
  refine ⟨b, off, ha, Nat.lt_of_lt_of_le hlt hb.size, fun i hi => ?_⟩
  exact ⟨(hb.cell (p := ⟨b, off + i * 2, none⟩) hlt).trans (hc i hi).1, (hb.cell (p := ⟨b, off + i * 2 + 1, none⟩) hlt).trans (hc i hi).2⟩
theorem Samples.at_ {w : World} {a : Option Addr} {n cap : Nat} {ls : List Smp} (h : Samples w (.slice a n cap) ls) {i : Nat} (hi : i < ls.length) :
    ∃ b off, a = some ⟨b, off, none⟩ ∧ b < w.heap.size ∧ w.cell? ⟨b, off + i * 2, none⟩ = some (.int .i64 (ls.getD i (0, 0)).1) ∧ w.cell? ⟨b, off + i * 2 + 1, none⟩ = some (.int .i64 (ls.getD i (0, 0)).2) := by
  obtain ⟨a', cap', hv, h1, h2, h3⟩ := h
  obtain ⟨b, off, ha, hlt, hc⟩ := h3 (by intro e; subst e; simp at hi)
  simp only [Value.slice.injEq] at hv
  obtain ⟨rfl, _, rfl⟩ := hv
  exact ⟨b, off, ha, hlt, (hc i hi).1, (hc i hi).2⟩
set_option maxRecDepth 100000 in
theorem tail_run {w : World} {l : List Smp} {b0 off0 : Nat} {m c : Nat} (h : Samples w (.slice (some ⟨b0, off0, none⟩) m c) l) (hn : 1 ≤ l.length) :
    ∃ u, (∀ w', (Instr.sliceAt 47 (.slice (some ⟨b0, off0, none⟩) m c) (some (.int .i64 1)) none none).run Tryz.prog w' = .ok u w') ∧ Samples w u (l.drop 1) ∧ (2 ≤ l.length → ∃ cap, u = .slice (some ⟨b0, off0 + 2, none⟩) (l.length - 1) cap) := by
  obtain ⟨a, c, hv, h1, h2, h3⟩ := h
  rw [hv]
  refine ⟨.slice (if c = 1 then a else a.map (·.add (1 * 2))) (l.length - 1) (c - 1), fun w' => ?_, ?_, ?_⟩
  · rw [run_sliceAt_slice _ _ _ _ _ _ rfl, run_slice_l _ _ _ _ _ rfl _ _ (by omega) (by omega)]
    rfl
  · have hl : (l.drop 1).length = l.length - 1 := by simp
    refine ⟨_, c - 1, by rw [hl], by rw [hl]; omega, by omega, fun hne => ?_⟩
    obtain ⟨b, off, rfl, hb, hc⟩ := h3 (by intro e; subst e; simp at hn)
    have hl2 : 0 < (l.drop 1).length := List.length_pos_iff.2 hne
    refine ⟨b, off + 1 * 2, ?_, hb, fun k hk => ?_⟩
    · rw [if_neg (by omega)]
      simp [Addr.add_lit]
    · rw [hl] at hk
      have e : (l.drop 1).getD k (0, 0) = l.getD (1 + k) (0, 0) := by
        rw [List.getD_eq_getElem?_getD, List.getD_eq_getElem?_getD, List.getElem?_drop]
      rw [e, Nat.add_assoc, show 1 * 2 + k * 2 = (1 + k) * 2 by omega]
      exact hc (1 + k) (by omega)
  · intro h2'
    obtain ⟨b, off, rfl, hb, hc⟩ := h3 (by intro e; subst e; simp at hn)
    simp only [Value.slice.injEq, Option.some.injEq, Addr.mk.injEq, and_true] at hv
    obtain ⟨⟨rfl, rfl⟩, _, _⟩ := hv
    exact ⟨c - 1, by rw [if_neg (by omega)]; simp [Addr.add_lit]⟩
theorem flat_at {α : Type} {enc : α → List Value} {k : Nat} (hk : ∀ x, (enc x).length = k) (d : α) : ∀ (l : List α) (i j : Nat), i < l.length → j < k → (l.flatMap enc)[i * k + j]? = (enc (l.getD i d))[j]? := by
  intro l
  induction l with
  | nil => intro i j hi; simp at hi
  | cons x r ih =>
    intro i j hi hj
    rw [List.flatMap_cons]
    cases i with
    | zero => rw [List.getElem?_append_left (by rw [hk]; omega), Nat.zero_mul, Nat.zero_add]; rfl
    | succ m =>
      have e : (m + 1) * k + j = k + (m * k + j) := by rw [Nat.succ_mul]; omega
      rw [List.getElem?_append_right (by rw [hk]; omega), hk, show (m + 1) * k + j - k = m * k + j by omega, ih m j (by simpa using hi) hj]
      rfl
theorem flat_len {α : Type} {enc : α → List Value} {k : Nat} (hk : ∀ x, (enc x).length = k) (l : List α) : (l.flatMap enc).length = l.length * k := by
  induction l with
  | nil => simp
  | cons x r ih => rw [List.flatMap_cons, List.length_append, hk, ih, List.length_cons, Nat.succ_mul]; omega

def OwnR {α : Type} (t k : Nat) (enc : α → List Value) (w : World) (base : Nat) (v : Value) (l : List α) : Prop := w.ownsRow base t k v l.length (l.flatMap enc)

theorem OwnR.open_ {α : Type} {t k : Nat} {enc : α → List Value} (hk : ∀ x, (enc x).length = k) (d : α) {w : World} {base : Nat} {v : Value} {l : List α} (h : OwnR t k enc w base v l) :
    ∃ a cap, v = .slice a l.length cap ∧ l.length ≤ cap ∧ cap ≤ 9223372036854775807 ∧
      (0 < l.length → ∃ g, a = some ⟨g, 0, none⟩ ∧ base ≤ g ∧ g < w.heap.size ∧ ∀ i, i < l.length → ∀ j, j < k → w.cell? ⟨g, i * k + j, none⟩ = (enc (l.getD i d))[j]?) := by
  obtain ⟨_, h2⟩ := h
  rcases h2 with ⟨rfl, h0⟩ | ⟨g, cap, cur, rfl, hg, hh, hn, hcap, hs, htake⟩
  · exact ⟨none, 0, by rw [h0], by omega, by omega, fun h => absurd h (by omega)⟩
  · refine ⟨_, cap, rfl, hn, by simp only [maxLen] at hcap; omega, fun _ => ⟨g, rfl, hg, (Array.getElem?_eq_some_iff.1 hh).1, fun i hi j hj => ?_⟩⟩
    rw [cell_of_row w g _ cur t (0, 0) hh]
    have hlt : i * k + j < l.length * k := by
      have : (i + 1) * k ≤ l.length * k := Nat.mul_le_mul_right k hi
      rw [Nat.succ_mul] at this; omega
    have h3 := flat_at hk d l i j hi hj
    rw [← h3, ← htake, List.getElem?_take, if_pos hlt]
    simp
theorem OwnR.nil {α : Type} {t k : Nat} {enc : α → List Value} (w : World) (base : Nat) : OwnR t k enc w base (.slice none 0 0) ([] : List α) := World.ownsRow_nil _ _ _ _
theorem OwnR.below {α : Type} {t k : Nat} {enc : α → List Value} {w w' : World} {base : Nat} {v : Value} {l : List α} (h : OwnR t k enc w base v l) (hb : Below w.heap.size w w') : OwnR t k enc w' base v l := by
  obtain ⟨h1, h2⟩ := h
  refine ⟨h1, ?_⟩
  rcases h2 with h2 | ⟨g, cap, cur, hv, hg, hh, r⟩
  · exact .inl h2
  · exact .inr ⟨g, cap, cur, hv, hg, by rw [hb.block g (Array.getElem?_eq_some_iff.1 hh).1]; exact hh, r⟩

def encS (x : Smp) : List Value := [.int .i64 x.1, .int .i64 x.2]
theorem OwnR.samples {t : Nat} {w : World} {base : Nat} {v : Value} {l : List Smp} (h : OwnR t 2 encS w base v l) : Samples w v l := by
  obtain ⟨a, cap, hv, h1, h2, h3⟩ := OwnR.open_ (enc := encS) (k := 2) (fun _ => rfl) (0, 0) h
  refine ⟨a, cap, hv, h1, h2, fun hx => ?_⟩
  obtain ⟨g, ha, _, hlt, hc⟩ := h3 (List.length_pos_iff.2 hx)
  exact ⟨g, 0, ha, hlt, fun i hi => ⟨by rw [Nat.zero_add]; exact hc i hi 0 (by omega), by rw [Nat.zero_add]; exact hc i hi 1 (by omega)⟩⟩
theorem infoSmp : (Tryz.prog.info? 211).map (fun i => (i.zero, i.size, i.bytes)) = some (some (.agg #[.int .i64 0, .int .i64 0]), 2, 16) := by kernel_rfl
theorem OwnR.fresh {α : Type} {t k : Nat} {enc : α → List Value} (w : World) {base : Nat} (hb : base ≤ w.heap.size) : OwnR t k enc (w.alloc (.cells #[] t)) base (.slice (some ⟨w.heap.size, 0, none⟩) 0 0) ([] : List α) := by
  refine ⟨by simp, .inr ⟨w.heap.size, 0, #[], rfl, hb, heap_alloc_new .., by simp, by simp [maxLen], by simp, by simp⟩⟩

def cmpI (x y : Int) : Int := if x < y then -1 else if y < x then 1 else 0

set_option maxRecDepth 100000 in
theorem nan_any (x : Int) (w : World) : Calls Tryz.prog 181 #[.int .i64 x] w fun e w' => e = .returned (.bool false) ∧ w = w' := by
  go_enter Tryz.func181, Tryz.ntmps181
  go_wp2_with fail
  go_ret
  exact ⟨by simp, rfl⟩
set_option maxRecDepth 100000 in
theorem cmp_any (x y : Int) (w : World) : Calls Tryz.prog 111 #[.int .i64 x, .int .i64 y] w fun e w' => e = .returned (.int .i64 (cmpI x y)) ∧ w = w' := by
  have h1 : x < y ∨ (¬ x < y ∧ y < x) ∨ (¬ x < y ∧ ¬ y < x) := by omega
  have HE : Hid (∀ z, cmpI x y = z → cmpI x y = z) := Lib.hid fun _ h => h
  go_enter Tryz.func111, Tryz.ntmps111
  go_wp2_with fail
  refine (nan_any x _).mono ?_
  rintro e w1 ⟨rfl, rfl⟩
  go_wp2_with fail
  refine (nan_any y _).mono ?_
  rintro e w1 ⟨rfl, rfl⟩
  rcases h1 with h1 | ⟨h1, h2⟩ | ⟨h1, h2⟩
  · have h1' : ¬ y < x := by omega
    go_wp2_with fail
    go_ret
    exact ⟨by simp [cmpI, h1], rfl⟩
  · go_wp2_with fail
    go_ret
    exact ⟨by simp [cmpI, h1, h2], rfl⟩
  · have h3 : cmpI x y = 0 := by unfold cmpI; rw [if_neg (by omega), if_neg (by omega)]
    go_wp2_with fail
    go_ret
    exact ⟨by rw [h3]; rfl, rfl⟩

set_option maxRecDepth 100000 in
theorem byTime_any (a b c d : Int) (w : World) :
    Calls Tryz.prog 107 #[.agg #[.int .i64 a, .int .i64 b], .agg #[.int .i64 c, .int .i64 d]] w fun e w' => e = .returned (.int .i64 (cmpI a c)) ∧ Below w.heap.size w w' := by
  go_enter Tryz.func107, Tryz.ntmps107
  go_wp2_with fail
  refine (cmp_any a c _).mono ?_
  rintro e w1 ⟨rfl, rfl⟩
  go_wp2_with fail
  go_ret
  exact ⟨rfl, ((Below.refl _ _).alloc (Nat.le_refl _) _).alloc (by simp) _⟩

theorem belowN {B : Nat} {a w : World} (h : Below B a w) (n : Nat) : Below B a (w.drewN n) := ⟨h.os, h.tape, h.output, h.size, h.block⟩
end Go.Proofs.YtheenlomlmbjaaaGreatDoor
