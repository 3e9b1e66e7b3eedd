/-
  Rows of texts that the call owns; append of one text, in a plain region and in one that draws.
-/
import Derived.Test.YtamdkmcdleilpaaMatch
import Derived.Deep.AppendLies
import Derived.OwnWalk
namespace Go.Proofs.Ytamdkmcdleilpaa
open Go.RowKit

def OwnS (w : World) (base : Nat) (v : Value) (l : List Bytes) : Prop := w.ownsRow base 9 1 v l.length (l.map fun s => .string (bs s))

theorem OwnS.open_ {w : World} {base : Nat} {v : Value} {l : List Bytes} (h : OwnS w base v l) :
    ∃ a cap, v = .slice a l.length cap ∧ l.length ≤ cap ∧ cap ≤ 9223372036854775807 ∧
      (0 < l.length → ∃ g, a = some ⟨g, 0, none⟩ ∧ base ≤ g ∧ g < w.heap.size ∧ ∀ i, i < l.length → w.cell? ⟨g, i, none⟩ = some (.string (bs (l.getD i [])))) := by
  obtain ⟨_, h2⟩ := h
  rcases h2 with ⟨rfl, h0⟩ | ⟨g, cap, cur, rfl, hg, hh, hn, hcap, hs, htake⟩
  · exact ⟨none, 0, by rw [h0], by omega, by omega, fun h => absurd h (by omega)⟩
  · refine ⟨_, cap, rfl, hn, by simp only [maxLen] at hcap; omega, fun _ => ⟨g, rfl, hg, (Array.getElem?_eq_some_iff.1 hh).1, fun i hi => ?_⟩⟩
    rw [cell_of_row w g i cur 9 (0, 0) hh]
    have hi' : (l.map fun s => Value.string (bs s))[i]? = some (.string (bs (l.getD i []))) := by
      simp [List.getD, List.getElem?_eq_getElem hi]
    rw [← htake] at hi'
    rw [List.getElem?_take] at hi'
    split at hi'
    · simpa using hi'
    · cases hi'
theorem OwnS.strs {w : World} {base : Nat} {v : Value} {l : List Bytes} (h : OwnS w base v l) : Strs w v l := by
  obtain ⟨a, cap, hv, h1, h2, h3⟩ := h.open_
  refine ⟨a, cap, hv, h1, h2, fun hx => ?_⟩
  obtain ⟨g, ha, _, hlt, hc⟩ := h3 (List.length_pos_iff.2 hx)
  exact ⟨g, 0, ha, hlt, fun i hi => by rw [Nat.zero_add]; exact hc i hi⟩
theorem OwnS.nil (w : World) (base : Nat) : OwnS w base (.slice none 0 0) [] := World.ownsRow_nil _ _ _ _
theorem OwnS.below {w w' : World} {base : Nat} {v : Value} {l : List Bytes} (h : OwnS w base v l) (hb : Below w.heap.size w w') : OwnS w' base v l := by
  obtain ⟨h1, h2⟩ := h
  refine ⟨h1, ?_⟩
  rcases h2 with h2 | ⟨g, cap, cur, hv, hg, hh, r⟩
  · exact .inl h2
  · exact .inr ⟨g, cap, cur, hv, hg, by rw [hb.block g (Array.getElem?_eq_some_iff.1 hh).1]; exact hh, r⟩

theorem infoStr : (Try.prog.info? 9).map (fun i => (i.zero, i.size, i.bytes)) = some (some (.string .empty), 1, 16) := by kernel_rfl

/-- 'row = append(row, y)', at a step of a region that draws. -/
theorem step_str1 (w : World) {ops : Array Oper} {o : Oper} {a : Act} {K : Act → World → Prop} {Q : Exit → Act → World → Prop} {E : Prop} (hgd : o.guard = none) (s x : Operand)
    (ho : o.op = .call { callee := .builtin .append, args := #[s, x], argTypes := #[25, 25] })
    (base : Nat) (v : Value) (l : List Bytes) (y : Bytes) (g : Nat) (hs : a.eval s = v) (hx : a.eval x = .slice (some ⟨g, 0, none⟩) 1 1)
    (hnew : w.heap[g]? = some (.cells #[.string (bs y)] 9 (0, 0))) (hown : OwnS w base v l) (hbase : base ≤ w.heap.size) (hlen : l.length ≤ 1000000000000)
    (h : ∀ v' w', OwnS w' base v' (l ++ [y]) → Below base w w' → K (a.put o.dst v') w') :
    if Region.wanted o (yielded ops a.tmps) = true then Oper.wp Try.prog o a w K Q else E := by
  obtain ⟨i0, hi, hz0, hz1, hz2⟩ := info_parts infoStr
  refine step_append_lies w hgd s x 25 ho base 9 i0 (.string .empty) 1 16 Try.underlying25 hi hz0 hz1 hz2 rfl (by decide) v l.length (l.map fun s => .string (bs s)) hs hown
    ⟨g, 0, none⟩ 1 1 [.string (bs y)] hx rfl (World.news_of_block hnew) ?_ (by omega) (by simp only [maxLen]; omega) (by omega) hbase _ rfl ?_
  · intro u hu
    simp at hu; subst hu; rfl
  · intro g' cap w' h1 h2 _ _
    refine h _ w' ?_ ((Below.refl _ _).grown h2 hbase (fun k hk => (hown.lt k hk).1))
    unfold OwnS
    simpa using h1

end Go.Proofs.Ytamdkmcdleilpaa
