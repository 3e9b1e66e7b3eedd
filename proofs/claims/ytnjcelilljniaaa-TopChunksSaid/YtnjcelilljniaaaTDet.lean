/-
  A region that draws its order, in a round, each of whose operations yields what is known beforehand.
-/
import Derived.Test.YtnjcelilljniaaaTEncR
namespace Go.Proofs.Ytnjcelilljniaaa
open Go.RowKit Go.Shelf

theorem put_comm (a : Act) {d e : Nat} (u v : Value) (h : d ≠ e) : (a.put (some d) u).put (some e) v = (a.put (some e) v).put (some d) u := by
  show Act.mk ((a.tmps.setIfInBounds d u).setIfInBounds e v) a.defers = Act.mk ((a.tmps.setIfInBounds e v).setIfInBounds d u) a.defers
  congr 1
  exact Array.setIfInBounds_comm _ _ h

/-- The slots of what has come up. -/
def setAll (dst : Nat → Nat) (V : Nat → Value) (l : Array Bool) : Nat → Act → Act
  | 0, a => a
  | m + 1, a => if l.getD m false = true then (setAll dst V l m a).put (some (dst m)) (V m) else setAll dst V l m a

section
variable {dst : Nat → Nat} {V : Nat → Value}
theorem setAll_size (l : Array Bool) (a : Act) (m : Nat) : (setAll dst V l m a).tmps.size = a.tmps.size := by
  induction m with
  | zero => rfl
  | succ m ih => unfold setAll; split
                 · rw [put_size, ih]
                 · exact ih
theorem setAll_other (l : Array Bool) (a : Act) (t : Nat) : ∀ m, (∀ j, j < m → dst j ≠ t) → (setAll dst V l m a).eval (.tmp t) = a.eval (.tmp t)
  | 0, _ => rfl
  | m + 1, h => by
    unfold setAll; split
    · rw [eval_other (fun e => h m (by omega) e.symm), setAll_other l a t m (fun j hj => h j (by omega))]
    · exact setAll_other l a t m (fun j hj => h j (by omega))
theorem setAll_at (l : Array Bool) (a : Act) (j : Nat) (hl : l.getD j false = true) : ∀ m, j < m → (∀ i k, i < m → k < m → dst i = dst k → i = k) → dst j < a.tmps.size → (setAll dst V l m a).eval (.tmp (dst j)) = V j
  | 0, h, _, _ => by omega
  | m + 1, h, hi, hs => by
    by_cases e : j = m
    · subst e
      unfold setAll
      rw [if_pos hl]
      exact eval_same (t := 0) (by rw [setAll_size]; exact hs)
    · unfold setAll; split
      · rw [eval_other (fun e' => e (hi j m (by omega) (by omega) e')), setAll_at l a j hl m (by omega) (fun i k h1 h2 => hi i k (by omega) (by omega)) hs]
      · exact setAll_at l a j hl m (by omega) (fun i k h1 h2 => hi i k (by omega) (by omega)) hs
theorem setAll_congr (a : Act) {l l' : Array Bool} : ∀ m, (∀ j, j < m → l.getD j false = l'.getD j false) → setAll dst V l m a = setAll dst V l' m a
  | 0, _ => rfl
  | m + 1, h => by unfold setAll; rw [h m (by omega), setAll_congr a m (fun j hj => h j (by omega))]
theorem setAll_set (l : Array Bool) (a : Act) (i : Nat) (hs : i < l.size) (hf : l.getD i false = false) : ∀ m, i < m → (∀ j k, j < m → k < m → dst j = dst k → j = k) →
    setAll dst V (l.setIfInBounds i true) m a = (setAll dst V l m a).put (some (dst i)) (V i)
  | 0, h, _ => by omega
  | m + 1, h, hi => by
    by_cases e : i = m
    · subst e
      have e1 : (l.setIfInBounds i true).getD i false = true := by rw [getD_set hs, if_pos rfl]
      unfold setAll
      have e2 := setAll_congr (dst := dst) (V := V) a (l := l.setIfInBounds i true) (l' := l) i (fun j hj => by rw [getD_set hs, if_neg (by omega)])
      rw [if_pos e1, hf, if_neg (by decide), e2]
    · have e1 : (l.setIfInBounds i true).getD m false = l.getD m false := by rw [getD_set hs, if_neg (fun e' => e e'.symm)]
      unfold setAll
      rw [e1, setAll_set l a i hs hf m (by omega) (fun j k h1 h2 => hi j k (by omega) (by omega))]
      split
      · exact put_comm _ _ _ (fun e' => e (hi i m (by omega) (by omega) e'))
      · rfl
theorem setAll_none (a : Act) (n : Nat) : ∀ m, setAll dst V (Array.replicate n false) m a = a
  | 0 => rfl
  | m + 1 => by
    unfold setAll
    rw [if_neg (by rw [Array.getD_eq_getD_getElem?, Array.getElem?_replicate]; split <;> simp), setAll_none a n m]
end

theorem wpAnyIn_det {F : Fence} {n : Nat} {P : Program} {md : Region.Mode} {ops : Array Oper} {Q : Exit → Act → World → Prop} (dst : Nat → Nat) (V : Nat → Value) (Rel Fin : World → Prop) (a0 : Act) (m : Nat) (hm : ops.size = m + 1)
    (hlt : ∀ j, j < m + 1 → dst j < a0.tmps.size) (hinj : ∀ i j, i < m + 1 → j < m + 1 → dst i = dst j → i = j)
    (hop : ∀ i l a w, i < m → i ∈ Region.ready md ops l → (∀ t, (∀ j, j < m + 1 → dst j ≠ t) → a.eval (.tmp t) = a0.eval (.tmp t)) → (∀ j, j < m + 1 → l.getD j false = true → a.eval (.tmp (dst j)) = V j) → Rel w →
      wpOpIn F n P ops Q i (fun a' w' => a' = a.put (some (dst i)) (V i) ∧ Rel w') a w)
    (hopl : ∀ l a w, m ∈ Region.ready md ops l → (∀ t, (∀ j, j < m + 1 → dst j ≠ t) → a.eval (.tmp t) = a0.eval (.tmp t)) → (∀ j, j < m + 1 → l.getD j false = true → a.eval (.tmp (dst j)) = V j) → Rel w →
      wpOpIn F n P ops Q m (fun a' w' => a' = a.put (some (dst m)) (V m) ∧ Fin w') a w)
    (dep : Nat → List Nat) (hdp : ∀ i l, i ∈ Region.ready md ops l → ∀ j ∈ dep i, l.getD j false = true)
    (hml : ∀ l : Array Bool, (∀ i, i < m + 1 → l.getD i false = true → ∀ j ∈ dep i, l.getD j false = true) → (∀ j ∈ dep m, l.getD j false = true) → ∀ j, j < m → l.getD j false = true)
    (hdep : ((List.range ops.size).all fun k => ((ops[k]?).map fun o => o.after.all fun e => decide (e.on < k)).getD true) = true)
    (hend : ∀ w, Fin w → Q .normal (setAll dst V (Array.replicate (m + 1) true) (m + 1) a0) w)
    (w0 : World) (h0 : Rel w0) (fuel : Nat) (hf : todo ops.size (Array.replicate ops.size false) ≤ fuel) : wpAnyIn F n P md ops Q fuel (Array.replicate ops.size false) a0 w0 := by
  refine wpAnyIn_inv (fun l a w => l.size = ops.size ∧ a = setAll dst V l (m + 1) a0 ∧ (∀ i, i < m + 1 → l.getD i false = true → ∀ j ∈ dep i, l.getD j false = true) ∧ if l.getD m false = true then ((∀ j, j < m → l.getD j false = true) ∧ Fin w) else Rel w) (fun l a w h => h.1) ?_ ?_ _ _ _ _ ?_ hf
  · rintro l a w i ⟨hs, ha, hcl, hr⟩ hi
    obtain ⟨hi1, hi2, -⟩ := ready_iff hi
    have hls : i < l.size := by omega
    have hfi : l.getD i false = false := by
      rw [Array.getD_eq_getD_getElem?, Array.getElem?_eq_getElem hls] at hi2 ⊢
      exact hi2
    have hnm : l.getD m false = false := by
      cases hb : l.getD m false with
      | false => rfl
      | true =>
        rw [hb, if_pos rfl] at hr
        by_cases e : i = m
        · subst e; rw [hfi] at hb; cases hb
        · have := hr.1 i (by omega); rw [hfi] at this; cases this
    rw [hnm, if_neg (by decide)] at hr
    have g1 : ∀ t, (∀ j, j < m + 1 → dst j ≠ t) → a.eval (.tmp t) = a0.eval (.tmp t) := fun t ht => by rw [ha]; exact setAll_other l a0 t (m + 1) ht
    have g2 : ∀ j, j < m + 1 → l.getD j false = true → a.eval (.tmp (dst j)) = V j := fun j hj hl => by rw [ha]; exact setAll_at l a0 j hl (m + 1) hj hinj (hlt j hj)
    have g3 : setAll dst V (l.setIfInBounds i true) (m + 1) a0 = a.put (some (dst i)) (V i) := by rw [ha]; exact setAll_set l a0 i hls hfi (m + 1) (by omega) hinj
    have hmono : ∀ j, l.getD j false = true → (l.setIfInBounds i true).getD j false = true := fun j hj => by
      rw [getD_set hls]; split
      · rfl
      · exact hj
    have hcl2 : ∀ k, k < m + 1 → (l.setIfInBounds i true).getD k false = true → ∀ j ∈ dep k, (l.setIfInBounds i true).getD j false = true := fun k hk hlk j hj => by
      by_cases e : k = i
      · subst e; exact hmono j (hdp k l hi j hj)
      · rw [getD_set hls, if_neg e] at hlk
        exact hmono j (hcl k hk hlk j hj)
    have hss : (l.setIfInBounds i true).size = ops.size := by rw [Array.size_setIfInBounds]; exact hs
    by_cases e : i = m
    · subst e
      refine wpOpIn_mono (fun a' w' h => ?_) (hopl l a w hi g1 g2 hr)
      refine ⟨hss, by rw [g3]; exact h.1, hcl2, ?_⟩
      have e3 : (l.setIfInBounds i true).getD i false = true := by rw [getD_set hls, if_pos rfl]
      rw [e3, if_pos rfl]
      exact ⟨fun j hj => by rw [getD_set hls, if_neg (by omega)]; exact hml l hcl (hdp i l hi) j hj, h.2⟩
    · refine wpOpIn_mono (fun a' w' h => ?_) (hop i l a w (by omega) hi g1 g2 hr)
      refine ⟨hss, by rw [g3]; exact h.1, hcl2, ?_⟩
      have e3 : (l.setIfInBounds i true).getD m false = false := by rw [getD_set hls, if_neg (fun e' => e e'.symm)]; exact hnm
      rw [e3, if_neg (by decide)]
      exact h.2
  · rintro l a w ⟨hs, ha, -, hr⟩ hrd
    have hall := ready_last hs hdep hrd
    rw [hall m (by omega), if_pos rfl] at hr
    have e : a = setAll dst V (Array.replicate (m + 1) true) (m + 1) a0 := by
      rw [ha]
      refine setAll_congr a0 (m + 1) fun j hj => ?_
      rw [hall j (by omega), Array.getD_eq_getD_getElem?, Array.getElem?_replicate, if_pos hj]
      rfl
    rw [e]
    exact hend w hr.2
  · refine ⟨by simp, (setAll_none a0 _ _).symm, fun i _ h => ?_, ?_⟩
    · rw [Array.getD_eq_getD_getElem?, Array.getElem?_replicate] at h; split at h <;> simp at h
    rw [if_neg (by rw [Array.getD_eq_getD_getElem?, Array.getElem?_replicate]; split <;> simp)]
    exact h0

end Go.Proofs.Ytnjcelilljniaaa
