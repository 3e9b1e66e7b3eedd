/-
  Two rows of slices of ints that one loop fills side by side.
-/
import Derived.Test.YtlbnofaehkdlpaaUnion6
import Derived.Maps.AppendAt
namespace Go.Proofs.Ytlbnofaehkdlpaa
open Go.RowKit

/-- A slice of ints that lies in neither of two blocks. -/
def IntsA (w : World) (v : Value) (xs : List Int) (p q : Option Nat) : Prop :=
  ∃ a cap, v = .slice a xs.length cap ∧ xs.length ≤ cap ∧ cap ≤ 9223372036854775807 ∧
    (xs ≠ [] → ∃ b off, a = some ⟨b, off, none⟩ ∧ b < w.heap.size ∧ some b ≠ p ∧ some b ≠ q ∧ ∀ i, i < xs.length → w.cell? ⟨b, off + i, none⟩ = some (.int .i64 (xs.getD i 0)))

theorem IntsA.ints {w : World} {v : Value} {xs : List Int} {p q : Option Nat} (h : IntsA w v xs p q) : Ints w v xs := by
  obtain ⟨a, cap, hv, h1, h2, h3⟩ := h
  refine ⟨a, cap, hv, h1, h2, fun hx => ?_⟩
  obtain ⟨b, off, ha, hlt, _, _, hc⟩ := h3 hx
  exact ⟨b, off, ha, hlt, hc⟩
theorem IntsA.swap {w : World} {v : Value} {xs : List Int} {p q : Option Nat} (h : IntsA w v xs p q) : IntsA w v xs q p := by
  obtain ⟨a, cap, hv, h1, h2, h3⟩ := h
  refine ⟨a, cap, hv, h1, h2, fun hx => ?_⟩
  obtain ⟨b, off, ha, hlt, e1, e2, hc⟩ := h3 hx
  exact ⟨b, off, ha, hlt, e2, e1, hc⟩
theorem IntsA.grown {w w' : World} {v : Value} {xs : List Int} {p q p' : Option Nat} (h : IntsA w v xs p q) (hg : w.grownBy w' p) (hp : p' = p ∨ p' = some w.heap.size) : IntsA w' v xs p' q := by
  obtain ⟨a, cap, hv, h1, h2, h3⟩ := h
  refine ⟨a, cap, hv, h1, h2, fun hx => ?_⟩
  obtain ⟨b, off, ha, hlt, e1, e2, hc⟩ := h3 hx
  refine ⟨b, off, ha, Nat.lt_of_lt_of_le hlt hg.size, ?_, e2, fun i hi => ?_⟩
  · rcases hp with e | e
    · rw [e]; exact e1
    · rw [e]; intro e'; have := Option.some.inj e'; omega
  · exact (World.cell?_of_block (w := w) (a := ⟨b, off + i, none⟩) (hg.block b hlt e1)).trans (hc i hi)
theorem IntsA.below {w w' : World} {v : Value} {xs : List Int} {p q : Option Nat} (h : IntsA w v xs p q) (hb : Below w.heap.size w w') : IntsA w' v xs p q := by
  obtain ⟨a, cap, hv, h1, h2, h3⟩ := h
  refine ⟨a, cap, hv, h1, h2, fun hx => ?_⟩
  obtain ⟨b, off, ha, hlt, e1, e2, hc⟩ := h3 hx
  exact ⟨b, off, ha, Nat.lt_of_lt_of_le hlt hb.size, e1, e2, fun i hi => (hb.cell (p := ⟨b, off + i, none⟩) hlt).trans (hc i hi)⟩
theorem Own.intsA {w : World} {base : Nat} {v : Value} {xs : List Int} {p q : Option Nat} (h : Own w base v xs) (hp : ∀ k, p = some k → k < base) (hq : ∀ k, q = some k → k < base) : IntsA w v xs p q := by
  obtain ⟨a, cap, hv, h1, h2, h3⟩ := h.open_
  refine ⟨a, cap, hv, h1, h2, fun hx => ?_⟩
  obtain ⟨g, ha, hg, hlt, hc⟩ := h3 (List.length_pos_iff.2 hx)
  refine ⟨g, 0, ha, hlt, ?_, ?_, fun i hi => by rw [Nat.zero_add]; exact hc i hi⟩
  · intro e; have := hp g e.symm; omega
  · intro e; have := hq g e.symm; omega

/-- One row of slices. -/
def Row (w : World) (base : Nat) (v : Value) (us : List Value) : Prop := w.ownsRow base 22 1 v us.length us

structure Two (w : World) (base : Nat) (vl vb : Value) (ul ub : List Value) (Xl Xb : List (List Int)) : Prop where
  ol : Row w base vl ul
  ob : Row w base vb ub
  sep : ∀ k, vl.ownBlock = some k → vb.ownBlock ≠ some k
  ll : ul.length = Xl.length
  lb : ub.length = Xb.length
  el : ∀ i (h : i < ul.length), IntsA w ul[i] (Xl.getD i []) vl.ownBlock vb.ownBlock
  eb : ∀ i (h : i < ub.length), IntsA w ub[i] (Xb.getD i []) vl.ownBlock vb.ownBlock

theorem Two.swap {w : World} {base : Nat} {vl vb : Value} {ul ub : List Value} {Xl Xb : List (List Int)} (h : Two w base vl vb ul ub Xl Xb) : Two w base vb vl ub ul Xb Xl :=
  ⟨h.ob, h.ol, fun k h1 h2 => h.sep k h2 h1, h.lb, h.ll, fun i hi => (h.eb i hi).swap, fun i hi => (h.el i hi).swap⟩
theorem Two.below {w w' : World} {base : Nat} {vl vb : Value} {ul ub : List Value} {Xl Xb : List (List Int)} (h : Two w base vl vb ul ub Xl Xb) (hb : Below w.heap.size w w') : Two w' base vl vb ul ub Xl Xb := by
  have hg : w.grownBy w' none := ⟨hb.os, hb.tape, hb.output, hb.size, fun k hk _ => hb.block k hk⟩
  exact ⟨World.ownsRow.kept h.ol hg (by cases vl.ownBlock <;> simp), World.ownsRow.kept h.ob hg (by cases vb.ownBlock <;> simp), h.sep, h.ll, h.lb, fun i hi => (h.el i hi).below hb, fun i hi => (h.eb i hi).below hb⟩
theorem Two.lt {w : World} {base : Nat} {vl vb : Value} {ul ub : List Value} {Xl Xb : List (List Int)} (h : Two w base vl vb ul ub Xl Xb) :
    (∀ k, vl.ownBlock = some k → k < w.heap.size) ∧ ∀ k, vb.ownBlock = some k → k < w.heap.size :=
  ⟨fun k hk => (World.ownsRow.lt h.ol k hk).2, fun k hk => (World.ownsRow.lt h.ob k hk).2⟩
theorem Two.push {w w' : World} {base : Nat} {vl vb v' u : Value} {ul ub : List Value} {Xl Xb : List (List Int)} {X : List Int} (h : Two w base vl vb ul ub Xl Xb)
    (hu : IntsA w u X vl.ownBlock vb.ownBlock) (ho : Row w' base v' (ul ++ [u])) (hg : w.grownBy w' vl.ownBlock) (hv : v'.ownBlock = vl.ownBlock ∨ v'.ownBlock = some w.heap.size) :
    Two w' base v' vb (ul ++ [u]) ub (Xl ++ [X]) Xb := by
  refine ⟨ho, World.ownsRow.kept h.ob hg ?_, ?_, by simp [h.ll], h.lb, fun i hi => ?_, fun i hi => (h.eb i hi).grown hg hv⟩
  · rcases hb : vb.ownBlock with _ | k
    · exact .inl rfl
    · exact .inr (fun e => h.sep k e.symm hb)
  · intro k h1 h2
    rcases hv with e | e
    · exact h.sep k (e ▸ h1) h2
    · have := h.lt.2 k h2
      rw [e] at h1
      have := Option.some.inj h1
      omega
  · rcases Nat.lt_or_ge i ul.length with hl | hl
    · rw [List.getElem_append_left hl]
      have e : (Xl ++ [X]).getD i [] = Xl.getD i [] := by simp [List.getD, List.getElem?_append_left (show i < Xl.length by rw [← h.ll]; exact hl)]
      rw [e]
      exact (h.el i hl).grown hg hv
    · have : i = ul.length := by simp at hi; omega
      subst this
      rw [List.getElem_append_right (Nat.le_refl _)]
      have e : (Xl ++ [X]).getD ul.length [] = X := by simp [List.getD, h.ll]
      rw [e]
      simpa using hu.grown hg hv
theorem Two.lists {w : World} {base : Nat} {vl vb : Value} {ul ub : List Value} {Xl Xb : List (List Int)} (h : Two w base vl vb ul ub Xl Xb) : Lists w vl Xl := by
  obtain ⟨_, h2⟩ := h.ol
  have hll := h.ll
  rcases h2 with ⟨e, h0⟩ | ⟨g, cap, cur, e, hg, hh, hn, hcap, hs, htake⟩
  · have : Xl = [] := List.eq_nil_of_length_eq_zero (by omega)
    subst this
    exact ⟨none, 0, e, Nat.le_refl _, by omega, fun h => absurd rfl h⟩
  · refine ⟨_, cap, by rw [e, hll], by omega, by simp only [maxLen] at hcap; omega, fun _ => ⟨g, 0, rfl, (Array.getElem?_eq_some_iff.1 hh).1, fun i hi => ?_⟩⟩
    have hi' : i < ul.length := by omega
    refine ⟨ul[i], ?_, (h.el i hi').ints⟩
    rw [Nat.zero_add, cell_of_row w g i cur 22 (0, 0) hh]
    obtain ⟨uu, huu⟩ : ∃ uu, uu = ul[i] := ⟨_, rfl⟩
    rw [← huu]
    have : ul[i]? = some uu := by rw [huu]; exact List.getElem?_eq_getElem hi'
    rw [← htake, List.getElem?_take] at this
    split at this
    · simpa using this
    · cases this

theorem infoS : (Try.prog.info? 22).map (fun i => (i.zero, i.size, i.bytes)) = some (some (.slice none 0 0), 1, 24) := by kernel_rfl

/-- 'l = append(l, u)', u a slice of ints. -/
theorem wpList_push (w : World) {ops : Array Oper} {rest : List Oper} {o : Oper} {a : Act} {Q : Exit → Act → World → Prop} (hg : o.guard = none) (s x : Operand)
    (ho : o.op = .call { callee := .builtin .append, args := #[s, x], argTypes := #[27, 27] })
    (base : Nat) (vl vb u : Value) (ul ub : List Value) (Xl Xb : List (List Int)) (X : List Int) (hs : a.eval s = vl) (hx : a.eval x = .slice (some ⟨w.heap.size, 0, none⟩) 1 1)
    (h2 : Two w base vl vb ul ub Xl Xb) (hu : IntsA w u X vl.ownBlock vb.ownBlock) (hbase : base ≤ w.heap.size) (hlen : Xl.length ≤ 1000000)
    (h : ∀ v' w', Two w' base v' vb (ul ++ [u]) ub (Xl ++ [X]) Xb → Below base w w' → wpList Try.prog ops Q rest (a.put o.dst v') w') :
    wpList Try.prog ops Q (o :: rest) a (w.alloc (.cells #[u] 22)) := by
  obtain ⟨i0, hi, hz0, hz1, hz2⟩ := info_parts infoS
  have hb : Below w.heap.size w (w.alloc (.cells #[u] 22)) := (Below.refl _ _).alloc (Nat.le_refl _) _
  have h2' := h2.below hb
  have hu' := hu.below hb
  have hll := h2.ll
  obtain ⟨a0, c0, hue, _⟩ := hu
  refine wpList_append_own_at _ hg s x 27 ho base 22 i0 (.slice none 0 0) 1 24 Try.underlying27 hi hz0 hz1 hz2 rfl (by decide) vl ul.length ul hs h2'.ol
    ⟨w.heap.size, 0, none⟩ 1 1 [u] hx rfl (cell_one_new _ _ _) (by intro x hx; simp at hx; subst hx; rw [hue]; rfl) (by simp only [maxLen]; omega) (by omega) (by simp; omega) ?_
  intro v' w' h1 hgr _ hv
  have hgr' : w.grownBy w' vl.ownBlock := ⟨hgr.os, hgr.tape, hgr.output, Nat.le_trans (by simp) hgr.size, fun k hk hne => (hgr.block k (by simp; omega) hne).trans (Below.heap_alloc _ _ _ hk)⟩
  exact h v' w' (h2'.push hu' (by unfold Row; simpa using h1) hgr hv) ((Below.refl _ _).grown hgr' hbase (fun k hk => (World.ownsRow.lt h2.ol k hk).1))

end Go.Proofs.Ytlbnofaehkdlpaa
