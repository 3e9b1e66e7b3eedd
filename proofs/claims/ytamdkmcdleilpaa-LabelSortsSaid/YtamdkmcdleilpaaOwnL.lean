/-
  Rows of labels that the call owns.
-/
import Derived.Test.YtamdkmcdleilpaaParser
import Derived.Deep.AppendLies
import Derived.OwnWalk
namespace Go.Proofs.Ytamdkmcdleilpaa
open Go.RowKit

theorem flat_at {α : Type} {enc : α → List Value} {k : Nat} (hk : ∀ x, (enc x).length = k) (d : α) : ∀ (l : List α) (i j : Nat), i < l.length → j < k → (l.flatMap enc)[i * k + j]? = (enc (l.getD i d))[j]? := by
  intro l
  induction l with
  | nil => intro i j hi; simp at hi
  | cons x r ih =>
    intro i j hi hj
    rw [List.flatMap_cons]
    cases i with
    | zero => rw [List.getElem?_append_left (by rw [hk]; omega), Nat.zero_mul, Nat.zero_add]; rfl
    | succ m =>
      have e : (m + 1) * k + j = k + (m * k + j) := by rw [Nat.succ_mul]; omega
      rw [List.getElem?_append_right (by rw [hk]; omega), hk, show (m + 1) * k + j - k = m * k + j by omega, ih m j (by simpa using hi) hj]
      rfl
theorem flat_len {α : Type} {enc : α → List Value} {k : Nat} (hk : ∀ x, (enc x).length = k) (l : List α) : (l.flatMap enc).length = l.length * k := by
  induction l with
  | nil => simp
  | cons x r ih => rw [List.flatMap_cons, List.length_append, hk, ih, List.length_cons, Nat.succ_mul]; omega

def OwnR {α : Type} (t k : Nat) (enc : α → List Value) (w : World) (base : Nat) (v : Value) (l : List α) : Prop := w.ownsRow base t k v l.length (l.flatMap enc)

theorem OwnR.open_ {α : Type} {t k : Nat} {enc : α → List Value} (hk : ∀ x, (enc x).length = k) (d : α) {w : World} {base : Nat} {v : Value} {l : List α} (h : OwnR t k enc w base v l) :
    ∃ a cap, v = .slice a l.length cap ∧ l.length ≤ cap ∧ cap ≤ 9223372036854775807 ∧
      (0 < l.length → ∃ g, a = some ⟨g, 0, none⟩ ∧ base ≤ g ∧ g < w.heap.size ∧ ∀ i, i < l.length → ∀ j, j < k → w.cell? ⟨g, i * k + j, none⟩ = (enc (l.getD i d))[j]?) := by
  obtain ⟨_, h2⟩ := h
  rcases h2 with ⟨rfl, h0⟩ | ⟨g, cap, cur, rfl, hg, hh, hn, hcap, hs, htake⟩
  · exact ⟨none, 0, by rw [h0], by omega, by omega, fun h => absurd h (by omega)⟩
  · refine ⟨_, cap, rfl, hn, by simp only [maxLen] at hcap; omega, fun _ => ⟨g, rfl, hg, (Array.getElem?_eq_some_iff.1 hh).1, fun i hi j hj => ?_⟩⟩
    rw [cell_of_row w g _ cur t (0, 0) hh]
    have hlt : i * k + j < l.length * k := by
      have : (i + 1) * k ≤ l.length * k := Nat.mul_le_mul_right k hi
      rw [Nat.succ_mul] at this; omega
    have h3 := flat_at hk d l i j hi hj
    rw [← h3, ← htake, List.getElem?_take, if_pos hlt]
    simp
theorem OwnR.nil {α : Type} {t k : Nat} {enc : α → List Value} (w : World) (base : Nat) : OwnR t k enc w base (.slice none 0 0) ([] : List α) := World.ownsRow_nil _ _ _ _
theorem OwnR.below {α : Type} {t k : Nat} {enc : α → List Value} {w w' : World} {base : Nat} {v : Value} {l : List α} (h : OwnR t k enc w base v l) (hb : Below w.heap.size w w') : OwnR t k enc w' base v l := by
  obtain ⟨h1, h2⟩ := h
  refine ⟨h1, ?_⟩
  rcases h2 with h2 | ⟨g, cap, cur, hv, hg, hh, r⟩
  · exact .inl h2
  · exact .inr ⟨g, cap, cur, hv, hg, by rw [hb.block g (Array.getElem?_eq_some_iff.1 hh).1]; exact hh, r⟩

def encLab (x : Lab) : List Value := [.string (bs x.1), .string (bs x.2)]
theorem OwnR.labels {t : Nat} {w : World} {base : Nat} {v : Value} {l : List Lab} (h : OwnR t 2 encLab w base v l) : Labels w v l := by
  obtain ⟨a, cap, hv, h1, h2, h3⟩ := OwnR.open_ (enc := encLab) (k := 2) (fun _ => rfl) ([], []) h
  refine ⟨a, cap, hv, h1, h2, fun hx => ?_⟩
  obtain ⟨g, ha, _, hlt, hc⟩ := h3 (List.length_pos_iff.2 hx)
  exact ⟨g, 0, ha, hlt, fun i hi => ⟨by rw [Nat.zero_add]; exact hc i hi 0 (by omega), by rw [Nat.zero_add]; exact hc i hi 1 (by omega)⟩⟩
theorem OwnR.far {α : Type} {t k : Nat} {enc : α → List Value} {w w' : World} {base pb : Nat} {v : Value} {l : List α} (h : OwnR t k enc w base v l) (hb : w.grownBy w' (some pb)) (hp : pb < base) : OwnR t k enc w' base v l := by
  obtain ⟨h1, h2⟩ := h
  refine ⟨h1, ?_⟩
  rcases h2 with h2 | ⟨g, cap, cur, hv, hg, hh, r⟩
  · exact .inl h2
  · exact .inr ⟨g, cap, cur, hv, hg, by rw [hb.block g (Array.getElem?_eq_some_iff.1 hh).1 (by intro e; cases e; omega)]; exact hh, r⟩
theorem infoLab : (Try.prog.info? 43).map (fun i => (i.zero, i.size, i.bytes)) = some (some (.agg #[.string .empty, .string .empty]), 2, 32) := by kernel_rfl

/-- 'l = append(l, x)': one label. -/
theorem app_lab (w : World) {ops : Array Oper} {rest : List Oper} {o : Oper} {a : Act} {Q : Exit → Act → World → Prop} (hgd : o.guard = none) (s x : Operand)
    (ho : o.op = .call { callee := .builtin .append, args := #[s, x], argTypes := #[22, 22] })
    (base : Nat) (v : Value) (l : List Lab) (y : Lab) (g : Nat) (hs : a.eval s = v) (hx : a.eval x = .slice (some ⟨g, 0, none⟩) 1 1)
    (hnew : w.heap[g]? = some (.cells #[.string (bs y.1), .string (bs y.2)] 43 (0, 0))) (hown : OwnR 43 2 encLab w base v l) (hbase : base ≤ w.heap.size) (hlen : l.length ≤ 1000000000)
    (h : ∀ g' cap w', OwnR 43 2 encLab w' base (.slice (some ⟨g', 0, none⟩) (l.length + 1) cap) (l ++ [y]) → Below base w w' → wpList Try.prog ops Q rest (a.put o.dst (.slice (some ⟨g', 0, none⟩) (l.length + 1) cap)) w') :
    wpList Try.prog ops Q (o :: rest) a w := by
  obtain ⟨i0, hi, hz0, hz1, hz2⟩ := info_parts infoLab
  refine wpList_append_lies w hgd s x 22 ho base 43 i0 _ 2 32 Try.underlying22 hi hz0 hz1 hz2 rfl (by decide) v l.length _ hs hown
    ⟨g, 0, none⟩ 1 1 [.string (bs y.1), .string (bs y.2)] hx rfl (World.news_of_block hnew) ?_ (by omega) (by simp only [maxLen]; omega) (by omega) hbase _ rfl ?_
  · intro u hu
    simp at hu; rcases hu with rfl | rfl <;> rfl
  · intro g' cap w' h1 h2 _ _
    refine h g' cap w' ?_ ((Below.refl _ _).grown h2 hbase (fun k hk => (hown.lt k hk).1))
    unfold OwnR
    simpa [encLab] using h1


end Go.Proofs.Ytamdkmcdleilpaa
