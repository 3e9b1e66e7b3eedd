/-
  Rows of matchers that the call owns.
-/
import Derived.Test.YtamdkmcdleilpaaOne
import Derived.Test.YtamdkmcdleilpaaRefParse
namespace Go.Proofs.Ytamdkmcdleilpaa
open Go.RowKit

def encMV (p : Mat × Value) : List Value := [.int .i64 p.1.k, .string (bs p.1.n), .string (bs p.1.x), p.2]
def OwnM (w : World) (base : Nat) (v : Value) (ms : List Mat) : Prop :=
  ∃ us : List (Mat × Value), us.map (·.1) = ms ∧ OwnR 27 4 encMV w base v us ∧ ∀ p ∈ us, OwnS w 0 p.2 p.1.ss
theorem OwnM.nil (w : World) (base : Nat) : OwnM w base (.slice none 0 0) [] := ⟨[], rfl, OwnR.nil _ _, fun p h => by cases h⟩
theorem OwnM.fresh (w : World) {base : Nat} (hb : base ≤ w.heap.size) : OwnM (w.alloc (.cells #[] 27)) base (.slice (some ⟨w.heap.size, 0, none⟩) 0 0) [] := ⟨[], rfl, OwnR.fresh w hb, fun p h => by cases h⟩
theorem OwnM.below {w w' : World} {base : Nat} {v : Value} {ms : List Mat} (h : OwnM w base v ms) (hb : Below w.heap.size w w') : OwnM w' base v ms := by
  obtain ⟨us, h1, h2, h3⟩ := h
  exact ⟨us, h1, h2.below hb, fun p hp => (h3 p hp).below hb⟩
theorem OwnM.slice {w : World} {base : Nat} {v : Value} {ms : List Mat} (h : OwnM w base v ms) : ∃ a c, v = .slice a ms.length c := by
  obtain ⟨us, h1, h2, h3⟩ := h
  obtain ⟨a, c, e, _⟩ := OwnR.open_ (enc := encMV) (k := 4) (fun _ => rfl) (noMat, undef) h2
  exact ⟨a, c, by rw [e, ← h1, List.length_map]⟩
theorem OwnM.matchers {w : World} {base : Nat} {v : Value} {ms : List Mat} (h : OwnM w base v ms) : Matchers w v ms := by
  obtain ⟨us, rfl, h2, h3⟩ := h
  obtain ⟨a, cap, hv, g1, g2, g3⟩ := OwnR.open_ (enc := encMV) (k := 4) (fun _ => rfl) (noMat, undef) h2
  refine ⟨a, cap, by rw [hv, List.length_map], by rw [List.length_map]; exact g1, g2, fun hx => ?_⟩
  have hpos : 0 < us.length := by
    cases us with
    | nil => exact absurd rfl hx
    | cons _ _ => simp
  obtain ⟨g, ha, _, hlt, hc⟩ := g3 hpos
  refine ⟨g, 0, ha, hlt, fun i hi => ?_⟩
  rw [List.length_map] at hi
  have e : (us.map (·.1)).getD i noMat = (us.getD i (noMat, undef)).1 := by simp [List.getD, List.getElem?_eq_getElem hi]
  have hm : us.getD i (noMat, undef) ∈ us := by simp only [List.getD, List.getElem?_eq_getElem hi, Option.getD_some]; exact List.getElem_mem hi
  rw [e, Nat.zero_add]
  exact ⟨hc i hi 0 (by omega), hc i hi 1 (by omega), hc i hi 2 (by omega), _, hc i hi 3 (by omega), (h3 _ hm).strs⟩
theorem OwnS.grown {w w' : World} {base : Nat} {u v : Value} {ss : List Bytes} {us : List (Mat × Value)} {base' : Nat} (h : OwnS w base u ss) (hv : OwnR 27 4 encMV w base' v us) (hg : w.grownBy w' v.ownBlock) : OwnS w' base u ss := by
  obtain ⟨h1, h2⟩ := h
  refine ⟨h1, ?_⟩
  rcases h2 with h2 | ⟨g, cap, cur, he, hb, hh, r⟩
  · exact .inl h2
  · refine .inr ⟨g, cap, cur, he, hb, ?_, r⟩
    rw [hg.block g (Array.getElem?_eq_some_iff.1 hh).1 ?_]
    · exact hh
    · intro e
      rcases hv.2 with ⟨hv, _⟩ | ⟨g', cap', cur', hv, _, hh', _⟩
      · rw [hv] at e; cases e
      · rw [hv] at e
        have e' : g = g' := by simpa [Value.ownBlock] using e
        rw [← e', hh] at hh'
        simp at hh'
theorem infoMat : (Try.prog.info? 27).map (fun i => (i.zero, i.size, i.bytes)) = some (some (.agg #[.int .i64 0, .string .empty, .string .empty, .slice none 0 0]), 4, 64) := by kernel_rfl

/-- 'l = append(l, m)': one matcher. -/
theorem app_mat (w : World) {ops : Array Oper} {rest : List Oper} {o : Oper} {a : Act} {Q : Exit → Act → World → Prop} (hgd : o.guard = none) (s x : Operand)
    (ho : o.op = .call { callee := .builtin .append, args := #[s, x], argTypes := #[35, 35] })
    (base : Nat) (v : Value) (l : List Mat) (y : Mat) (ua : Option Addr) (ul uc : Nat) (g : Nat) (hs : a.eval s = v) (hx : a.eval x = .slice (some ⟨g, 0, none⟩) 1 1)
    (hnew : w.heap[g]? = some (.cells #[.int .i64 y.k, .string (bs y.n), .string (bs y.x), .slice ua ul uc] 27 (0, 0))) (hown : OwnM w base v l) (hy : OwnS w 0 (.slice ua ul uc) y.ss) (hbase : base ≤ w.heap.size) (hlen : l.length ≤ 1000000000)
    (h : ∀ g' cap w', OwnM w' base (.slice (some ⟨g', 0, none⟩) (l.length + 1) cap) (l ++ [y]) → Below base w w' → wpList Try.prog ops Q rest (a.put o.dst (.slice (some ⟨g', 0, none⟩) (l.length + 1) cap)) w') :
    wpList Try.prog ops Q (o :: rest) a w := by
  obtain ⟨i0, hi, hz0, hz1, hz2⟩ := info_parts infoMat
  obtain ⟨us, rfl, h2, h3⟩ := hown
  rw [List.length_map] at hlen h
  refine wpList_append_lies w hgd s x 35 ho base 27 i0 _ 4 64 Try.underlying35 hi hz0 hz1 hz2 rfl (by decide) v us.length _ hs h2
    ⟨g, 0, none⟩ 1 1 [.int .i64 y.k, .string (bs y.n), .string (bs y.x), .slice ua ul uc] hx rfl (World.news_of_block hnew) ?_ (by omega) (by simp only [maxLen]; omega) (by omega) hbase _ rfl ?_
  · intro u hu
    simp at hu; rcases hu with rfl | rfl | rfl | rfl <;> rfl
  · intro g' cap w' e1 e2 _ _
    refine h g' cap w' ⟨us ++ [(y, .slice ua ul uc)], by simp, ?_, fun p hp => ?_⟩ ((Below.refl _ _).grown e2 hbase (fun k hk => (h2.lt k hk).1))
    · unfold OwnR
      simpa [encMV] using e1
    · rcases List.mem_append.1 hp with hp | hp
      · exact (h3 p hp).grown h2 e2
      · simp at hp; subst hp; exact hy.grown h2 e2

end Go.Proofs.Ytamdkmcdleilpaa
