/-
  Slices of ints in a walk: what came in ('Ints'), what the call itself made ('Own'); append of one element.
-/
import Derived.Test.YtlbnofaehkdlpaaRows
import Derived.WalkKit
import Derived.WalkSpells
import Derived.WalkLawsBesides
import Derived.BigQuiet
import Derived.Lib.Hide
import Derived.Deep.DeepFit
namespace Go.Proofs.Ytlbnofaehkdlpaa
open Go.RowKit

theorem infoI : (Try.prog.info? 3).map (fun i => (i.zero, i.size, i.bytes)) = some (some (.int .i64 0), 1, 8) := by kernel_rfl

/-- Slice value v reads as the list xs in world w. -/
def Ints (w : World) (v : Value) (xs : List Int) : Prop :=
  ∃ a cap, v = .slice a xs.length cap ∧ xs.length ≤ cap ∧ cap ≤ 9223372036854775807 ∧
    (xs ≠ [] → ∃ b off, a = some ⟨b, off, none⟩ ∧ b < w.heap.size ∧ ∀ i, i < xs.length → w.cell? ⟨b, off + i, none⟩ = some (.int .i64 (xs.getD i 0)))

theorem Ints.below {w w' : World} {v : Value} {xs : List Int} (h : Ints w v xs) (hb : Below w.heap.size w w') : Ints w' v xs := by
  obtain ⟨a, cap, hv, h1, h2, h3⟩ := h
  refine ⟨a, cap, hv, h1, h2, fun hx => ?_⟩
  obtain ⟨b, off, ha, hlt, hc⟩ := h3 hx
  exact ⟨b, off, ha, Nat.lt_of_lt_of_le hlt hb.size, fun i hi => (hb.cell (p := ⟨b, off + i, none⟩) hlt).trans (hc i hi)⟩

/-- What the call itself made, from block 'base' on. -/
def Own (w : World) (base : Nat) (v : Value) (xs : List Int) : Prop := w.ownsRow base 3 1 v xs.length (xs.map (Value.int .i64))

theorem Own.open_ {w : World} {base : Nat} {v : Value} {xs : List Int} (h : Own w base v xs) :
    ∃ a cap, v = .slice a xs.length cap ∧ xs.length ≤ cap ∧ cap ≤ 9223372036854775807 ∧
      (0 < xs.length → ∃ g, a = some ⟨g, 0, none⟩ ∧ base ≤ g ∧ g < w.heap.size ∧ ∀ i, i < xs.length → w.cell? ⟨g, i, none⟩ = some (.int .i64 (xs.getD i 0))) := by
  obtain ⟨_, h2⟩ := h
  rcases h2 with ⟨rfl, h0⟩ | ⟨g, cap, cur, rfl, hg, hh, hn, hcap, hs, htake⟩
  · exact ⟨none, 0, by rw [h0], by omega, by omega, fun h => absurd h (by omega)⟩
  · refine ⟨_, cap, rfl, hn, by simp only [maxLen] at hcap; omega, fun _ => ⟨g, rfl, hg, (Array.getElem?_eq_some_iff.1 hh).1, fun i hi => ?_⟩⟩
    rw [cell_of_row w g i cur 3 (0, 0) hh]
    have hi' : (xs.map (Value.int .i64))[i]? = some (.int .i64 (xs.getD i 0)) := by
      simp [List.getD, List.getElem?_eq_getElem hi]
    rw [← htake, List.getElem?_take] at hi'
    split at hi'
    · simpa using hi'
    · cases hi'

theorem Own.ints {w : World} {base : Nat} {v : Value} {xs : List Int} (h : Own w base v xs) : Ints w v xs := by
  obtain ⟨a, cap, hv, h1, h2, h3⟩ := h.open_
  refine ⟨a, cap, hv, h1, h2, fun hx => ?_⟩
  obtain ⟨g, ha, _, hlt, hc⟩ := h3 (List.length_pos_iff.2 hx)
  exact ⟨g, 0, ha, hlt, fun i hi => by rw [Nat.zero_add]; exact hc i hi⟩

theorem Own.nil (w : World) (base : Nat) : Own w base (.slice none 0 0) [] := World.ownsRow_nil _ _ _ _
theorem Own.made (w : World) (base : Nat) (h : base ≤ w.heap.size) : Own (w.alloc (.cells #[] 3)) base (.slice (some ⟨w.heap.size, 0, none⟩) 0 0) [] :=
  World.ownsRow_made _ _ _ h (by decide) rfl
theorem Own.drewN {w : World} {base : Nat} {v : Value} {xs : List Int} (h : Own w base v xs) (n : Nat) : Own (w.drewN n) base v xs := h
theorem Own.block {w : World} {base : Nat} {v : Value} {xs : List Int} (h : Own w base v xs) : ∀ k, v.ownBlock = some k → base ≤ k ∧ k < w.heap.size := World.ownsRow.lt h
theorem Own.lower {w : World} {base base' : Nat} {v : Value} {xs : List Int} (h : Own w base v xs) (hb : base' ≤ base) : Own w base' v xs := by
  obtain ⟨h1, h2⟩ := h
  refine ⟨h1, ?_⟩
  rcases h2 with h2 | ⟨g, cap, cur, hv, hg, r⟩
  · exact .inl h2
  · exact .inr ⟨g, cap, cur, hv, Nat.le_trans hb hg, r⟩
theorem Own.below {w w' : World} {base : Nat} {v : Value} {xs : List Int} (h : Own w base v xs) (hb : Below w.heap.size w w') : Own w' base v xs := by
  obtain ⟨h1, h2⟩ := h
  refine ⟨h1, ?_⟩
  rcases h2 with h2 | ⟨g, cap, cur, hv, hg, hh, r⟩
  · exact .inl h2
  · exact .inr ⟨g, cap, cur, hv, hg, by rw [hb.block g (Array.getElem?_eq_some_iff.1 hh).1]; exact hh, r⟩

theorem below_drewN {B : Nat} {a w : World} (h : Below B a w) (n : Nat) : Below B a (w.drewN n) := ⟨h.os, h.tape, h.output, h.size, h.block⟩

/-- 'out = append(out, y)', out nil or the call's own. -/
theorem wpList_app1 (w : World) {ops : Array Oper} {rest : List Oper} {o : Oper} {a : Act} {Q : Exit → Act → World → Prop} (hg : o.guard = none) (s x : Operand)
    (ho : o.op = .call { callee := .builtin .append, args := #[s, x], argTypes := #[22, 22] })
    (base : Nat) (v : Value) (xs : List Int) (y : Int) (hs : a.eval s = v) (hx : a.eval x = .slice (some ⟨w.heap.size, 0, none⟩) 1 1)
    (hown : Own w base v xs) (hbase : base ≤ w.heap.size) (hlen : xs.length ≤ 1000000000000)
    (h : ∀ v' w', Own w' base v' (xs ++ [y]) → Below base w w' → w.grownBy w' v.ownBlock → wpList Try.prog ops Q rest (a.put o.dst v') w') :
    wpList Try.prog ops Q (o :: rest) a (w.alloc (.cells #[.int .i64 y] 3)) := by
  obtain ⟨i0, hi, hz0, hz1, hz2⟩ := info_parts infoI
  refine wpList_append_own _ hg s x 22 ho base 3 i0 (.int .i64 0) 1 8 Try.underlying22 hi hz0 hz1 hz2 rfl (by decide) v xs.length (xs.map (Value.int .i64)) hs (hown.alloc _)
    ⟨w.heap.size, 0, none⟩ 1 1 [.int .i64 y] hx rfl ?_ ?_ (by simp only [maxLen]; omega) (by omega) (by simp; omega) ?_
  · intro j u hj
    match j, hj with
    | 0, hj => 
      simp at hj; subst hj
      rw [Addr.add_lit, World.cell?_alloc_at _ _ _ _ rfl]; rfl
  · intro u hu
    simp at hu; subst hu; rfl
  · intro v' w' h1 h2 _
    have hgr : w.grownBy w' v.ownBlock := ⟨h2.os, h2.tape, h2.output, Nat.le_trans (by simp) h2.size, fun k hk hne => (h2.block k (by simp; omega) hne).trans (Below.heap_alloc _ _ _ hk)⟩
    refine h v' w' ?_ ((Below.refl _ _).grown hgr hbase (fun k hk => (hown.block k hk).1)) hgr
    unfold Own
    simpa using h1

end Go.Proofs.Ytlbnofaehkdlpaa
