/-
  Rows that the call owns: of samples, of windows; what is appended to them.
-/
import Derived.Test.YtilkcojfencggaaARises
set_option linter.unusedSimpArgs false
set_option linter.unusedVariables false
namespace Go.Proofs.Ytilkcojfencggaa
open Go.RowKit

theorem flat_at {α : Type} {enc : α → List Value} {k : Nat} (hk : ∀ x, (enc x).length = k) (d : α) : ∀ (l : List α) (i j : Nat), i < l.length → j < k → (l.flatMap enc)[i * k + j]? = (enc (l.getD i d))[j]? := by
  intro l
  induction l with
  | nil => intro i j hi; simp at hi
  | cons x r ih =>
    intro i j hi hj
    rw [List.flatMap_cons]
    cases i with
    | zero => rw [List.getElem?_append_left (by rw [hk]; omega), Nat.zero_mul, Nat.zero_add]; rfl
    | succ m =>
      have e : (m + 1) * k + j = k + (m * k + j) := by rw [Nat.succ_mul]; omega
      rw [List.getElem?_append_right (by rw [hk]; omega), hk, show (m + 1) * k + j - k = m * k + j by omega, ih m j (by simpa using hi) hj]
      rfl
theorem flat_len {α : Type} {enc : α → List Value} {k : Nat} (hk : ∀ x, (enc x).length = k) (l : List α) : (l.flatMap enc).length = l.length * k := by
  induction l with
  | nil => simp
  | cons x r ih => rw [List.flatMap_cons, List.length_append, hk, ih, List.length_cons, Nat.succ_mul]; omega

def OwnR {α : Type} (t k : Nat) (enc : α → List Value) (w : World) (base : Nat) (v : Value) (l : List α) : Prop := w.ownsRow base t k v l.length (l.flatMap enc)

theorem OwnR.open_ {α : Type} {t k : Nat} {enc : α → List Value} (hk : ∀ x, (enc x).length = k) (d : α) {w : World} {base : Nat} {v : Value} {l : List α} (h : OwnR t k enc w base v l) :
    ∃ a cap, v = .slice a l.length cap ∧ l.length ≤ cap ∧ cap ≤ 9223372036854775807 ∧
      (0 < l.length → ∃ g, a = some ⟨g, 0, none⟩ ∧ base ≤ g ∧ g < w.heap.size ∧ ∀ i, i < l.length → ∀ j, j < k → w.cell? ⟨g, i * k + j, none⟩ = (enc (l.getD i d))[j]?) := by
  obtain ⟨_, h2⟩ := h
  rcases h2 with ⟨rfl, h0⟩ | ⟨g, cap, cur, rfl, hg, hh, hn, hcap, hs, htake⟩
  · exact ⟨none, 0, by rw [h0], by omega, by omega, fun h => absurd h (by omega)⟩
  · refine ⟨_, cap, rfl, hn, by simp only [maxLen] at hcap; omega, fun _ => ⟨g, rfl, hg, (Array.getElem?_eq_some_iff.1 hh).1, fun i hi j hj => ?_⟩⟩
    rw [cell_of_row w g _ cur t (0, 0) hh]
    have hlt : i * k + j < l.length * k := by
      have : (i + 1) * k ≤ l.length * k := Nat.mul_le_mul_right k hi
      rw [Nat.succ_mul] at this; omega
    have h3 := flat_at hk d l i j hi hj
    rw [← h3, ← htake, List.getElem?_take, if_pos hlt]
    simp
theorem OwnR.nil {α : Type} {t k : Nat} {enc : α → List Value} (w : World) (base : Nat) : OwnR t k enc w base (.slice none 0 0) ([] : List α) := World.ownsRow_nil _ _ _ _
theorem OwnR.below {α : Type} {t k : Nat} {enc : α → List Value} {w w' : World} {base : Nat} {v : Value} {l : List α} (h : OwnR t k enc w base v l) (hb : Below w.heap.size w w') : OwnR t k enc w' base v l := by
  obtain ⟨h1, h2⟩ := h
  refine ⟨h1, ?_⟩
  rcases h2 with h2 | ⟨g, cap, cur, hv, hg, hh, r⟩
  · exact .inl h2
  · exact .inr ⟨g, cap, cur, hv, hg, by rw [hb.block g (Array.getElem?_eq_some_iff.1 hh).1]; exact hh, r⟩

def encS (x : Smp) : List Value := [.int .i64 x.1, .int .i64 x.2]
def encW (x : Win) : List Value := [.int .i64 x.f, .int .i64 x.c, .int .i64 x.s, .int .i64 x.mn, .int .i64 x.mx]
theorem OwnR.samples {t : Nat} {w : World} {base : Nat} {v : Value} {l : List Smp} (h : OwnR t 2 encS w base v l) : Samples w v l := by
  obtain ⟨a, cap, hv, h1, h2, h3⟩ := OwnR.open_ (enc := encS) (k := 2) (fun _ => rfl) (0, 0) h
  refine ⟨a, cap, hv, h1, h2, fun hx => ?_⟩
  obtain ⟨g, ha, _, hlt, hc⟩ := h3 (List.length_pos_iff.2 hx)
  exact ⟨g, 0, ha, hlt, fun i hi => ⟨by rw [Nat.zero_add]; exact hc i hi 0 (by omega), by rw [Nat.zero_add]; exact hc i hi 1 (by omega)⟩⟩
theorem OwnR.wins {t : Nat} {w : World} {base : Nat} {v : Value} {l : List Win} (h : OwnR t 5 encW w base v l) : Wins w v l := by
  obtain ⟨a, cap, hv, h1, h2, h3⟩ := OwnR.open_ (enc := encW) (k := 5) (fun _ => rfl) w0 h
  refine ⟨a, cap, hv, h1, h2, fun hx => ?_⟩
  obtain ⟨g, ha, _, hlt, hc⟩ := h3 (List.length_pos_iff.2 hx)
  refine ⟨g, 0, ha, hlt, fun i hi => ?_⟩
  simp only [Nat.zero_add]
  exact ⟨hc i hi 0 (by omega), hc i hi 1 (by omega), hc i hi 2 (by omega), hc i hi 3 (by omega), hc i hi 4 (by omega)⟩

theorem infoSmp : (Try.prog.info? 37).map (fun i => (i.zero, i.size, i.bytes)) = some (some (.agg #[.int .i64 0, .int .i64 0]), 2, 16) := by kernel_rfl
theorem infoWin : (Try.prog.info? 34).map (fun i => (i.zero, i.size, i.bytes)) = some (some (.agg #[.int .i64 0, .int .i64 0, .int .i64 0, .int .i64 0, .int .i64 0]), 5, 40) := by kernel_rfl
theorem infoRWin : (Try.prog.info? 33).map (fun i => (i.zero, i.size, i.bytes)) = some (some (.agg #[.int .i64 0, .int .i64 0, .int .i64 0, .int .i64 0, .int .i64 0]), 5, 40) := by kernel_rfl

/-- 'l = append(l, x)': one sample. -/
theorem app_smp (w : World) {ops : Array Oper} {rest : List Oper} {o : Oper} {a : Act} {Q : Exit → Act → World → Prop} (hgd : o.guard = none) (s x : Operand)
    (ho : o.op = .call { callee := .builtin .append, args := #[s, x], argTypes := #[22, 22] })
    (base : Nat) (v : Value) (l : List Smp) (y : Smp) (g : Nat) (hs : a.eval s = v) (hx : a.eval x = .slice (some ⟨g, 0, none⟩) 1 1)
    (hnew : w.heap[g]? = some (.cells #[.int .i64 y.1, .int .i64 y.2] 37 (0, 0))) (hown : OwnR 37 2 encS w base v l) (hbase : base ≤ w.heap.size) (hlen : l.length ≤ 1000000000)
    (h : ∀ g' cap w', OwnR 37 2 encS w' base (.slice (some ⟨g', 0, none⟩) (l.length + 1) cap) (l ++ [y]) → Below base w w' → wpList Try.prog ops Q rest (a.put o.dst (.slice (some ⟨g', 0, none⟩) (l.length + 1) cap)) w') :
    wpList Try.prog ops Q (o :: rest) a w := by
  obtain ⟨i0, hi, hz0, hz1, hz2⟩ := info_parts infoSmp
  refine wpList_append_lies w hgd s x 22 ho base 37 i0 _ 2 16 Try.underlying22 hi hz0 hz1 hz2 rfl (by decide) v l.length _ hs hown
    ⟨g, 0, none⟩ 1 1 [.int .i64 y.1, .int .i64 y.2] hx rfl (World.news_of_block hnew) ?_ (by omega) (by simp only [maxLen]; omega) (by omega) hbase _ rfl ?_
  · intro u hu
    simp at hu; rcases hu with rfl | rfl <;> rfl
  · intro g' cap w' h1 h2 _ _
    refine h g' cap w' ?_ ((Below.refl _ _).grown h2 hbase (fun k hk => (hown.lt k hk).1))
    unfold OwnR
    simpa [encS] using h1

/-- 'l = append(l, x)': one window. -/
theorem app_win (w : World) {ops : Array Oper} {rest : List Oper} {o : Oper} {a : Act} {Q : Exit → Act → World → Prop} (hgd : o.guard = none) (s x : Operand)
    (ho : o.op = .call { callee := .builtin .append, args := #[s, x], argTypes := #[25, 25] })
    (base : Nat) (v : Value) (l : List Win) (y : Win) (g : Nat) (hs : a.eval s = v) (hx : a.eval x = .slice (some ⟨g, 0, none⟩) 1 1)
    (hnew : w.heap[g]? = some (.cells #[.int .i64 y.f, .int .i64 y.c, .int .i64 y.s, .int .i64 y.mn, .int .i64 y.mx] 34 (0, 0))) (hown : OwnR 34 5 encW w base v l) (hbase : base ≤ w.heap.size) (hlen : l.length ≤ 1000000000)
    (h : ∀ g' cap w', OwnR 34 5 encW w' base (.slice (some ⟨g', 0, none⟩) (l.length + 1) cap) (l ++ [y]) → Below base w w' → wpList Try.prog ops Q rest (a.put o.dst (.slice (some ⟨g', 0, none⟩) (l.length + 1) cap)) w') :
    wpList Try.prog ops Q (o :: rest) a w := by
  obtain ⟨i0, hi, hz0, hz1, hz2⟩ := info_parts infoWin
  refine wpList_append_lies w hgd s x 25 ho base 34 i0 _ 5 40 Try.underlying25 hi hz0 hz1 hz2 rfl (by decide) v l.length _ hs hown
    ⟨g, 0, none⟩ 1 1 [.int .i64 y.f, .int .i64 y.c, .int .i64 y.s, .int .i64 y.mn, .int .i64 y.mx] hx rfl (World.news_of_block hnew) ?_ (by omega) (by simp only [maxLen]; omega) (by omega) hbase _ rfl ?_
  · intro u hu
    simp at hu; rcases hu with rfl | rfl | rfl | rfl | rfl <;> rfl
  · intro g' cap w' h1 h2 _ _
    refine h g' cap w' ?_ ((Below.refl _ _).grown h2 hbase (fun k hk => (hown.lt k hk).1))
    unfold OwnR
    simpa [encW] using h1

/-- 'l = append(l, x)': one window. -/
theorem app_rwin (w : World) {ops : Array Oper} {rest : List Oper} {o : Oper} {a : Act} {Q : Exit → Act → World → Prop} (hgd : o.guard = none) (s x : Operand)
    (ho : o.op = .call { callee := .builtin .append, args := #[s, x], argTypes := #[29, 29] })
    (base : Nat) (v : Value) (l : List Win) (y : Win) (g : Nat) (hs : a.eval s = v) (hx : a.eval x = .slice (some ⟨g, 0, none⟩) 1 1)
    (hnew : w.heap[g]? = some (.cells #[.int .i64 y.f, .int .i64 y.c, .int .i64 y.s, .int .i64 y.mn, .int .i64 y.mx] 33 (0, 0))) (hown : OwnR 33 5 encW w base v l) (hbase : base ≤ w.heap.size) (hlen : l.length ≤ 1000000000)
    (h : ∀ g' cap w', OwnR 33 5 encW w' base (.slice (some ⟨g', 0, none⟩) (l.length + 1) cap) (l ++ [y]) → Below base w w' → wpList Try.prog ops Q rest (a.put o.dst (.slice (some ⟨g', 0, none⟩) (l.length + 1) cap)) w') :
    wpList Try.prog ops Q (o :: rest) a w := by
  obtain ⟨i0, hi, hz0, hz1, hz2⟩ := info_parts infoRWin
  refine wpList_append_lies w hgd s x 29 ho base 33 i0 _ 5 40 Try.underlying29 hi hz0 hz1 hz2 rfl (by decide) v l.length _ hs hown
    ⟨g, 0, none⟩ 1 1 [.int .i64 y.f, .int .i64 y.c, .int .i64 y.s, .int .i64 y.mn, .int .i64 y.mx] hx rfl (World.news_of_block hnew) ?_ (by omega) (by simp only [maxLen]; omega) (by omega) hbase _ rfl ?_
  · intro u hu
    simp at hu; rcases hu with rfl | rfl | rfl | rfl | rfl <;> rfl
  · intro g' cap w' h1 h2 _ _
    refine h g' cap w' ?_ ((Below.refl _ _).grown h2 hbase (fun k hk => (hown.lt k hk).1))
    unfold OwnR
    simpa [encW] using h1

theorem OwnR.fresh {α : Type} {t k : Nat} {enc : α → List Value} (w : World) {base : Nat} (hb : base ≤ w.heap.size) : OwnR t k enc (w.alloc (.cells #[] t)) base (.slice (some ⟨w.heap.size, 0, none⟩) 0 0) ([] : List α) := by
  refine ⟨by simp, .inr ⟨w.heap.size, 0, #[], rfl, hb, heap_alloc_new .., by simp, by simp [maxLen], by simp, by simp⟩⟩

end Go.Proofs.Ytilkcojfencggaa
