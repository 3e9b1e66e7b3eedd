/-
  Plain: the stable merge of two lists, the stable sort; what the merge by halves does.
-/
import Derived.Test.YtnjcelilljniaaaTRight
namespace Go.Proofs.Ytnjcelilljniaaa

section
variable {α : Type} (lt : α → α → Bool)

/-- Of two that are alike the first list's comes first. -/
def mergeL : List α → List α → List α
  | [], b => b
  | x :: a, [] => x :: a
  | x :: a, y :: b => if lt y x then y :: mergeL (x :: a) b else x :: mergeL a (y :: b)
termination_by a b => a.length + b.length

theorem mergeL_nil_left (b : List α) : mergeL lt [] b = b := by rw [mergeL]
theorem mergeL_nil_right (a : List α) : mergeL lt a [] = a := by cases a <;> rw [mergeL]
theorem mergeL_yes {x y : α} (a b : List α) (h : lt y x = true) : mergeL lt (x :: a) (y :: b) = y :: mergeL lt (x :: a) b := by rw [mergeL, if_pos h]
theorem mergeL_no {x y : α} (a b : List α) (h : lt y x = false) : mergeL lt (x :: a) (y :: b) = x :: mergeL lt a (y :: b) := by rw [mergeL, if_neg (by rw [h]; exact Bool.false_ne_true)]
theorem mergeL_len : ∀ a b : List α, (mergeL lt a b).length = a.length + b.length
  | [], b => by rw [mergeL_nil_left]; simp
  | x :: a, [] => by rw [mergeL_nil_right]; simp
  | x :: a, y :: b => by
    cases h : lt y x with
    | true => rw [mergeL_yes lt a b h, List.length_cons, mergeL_len (x :: a) b]; simp; omega
    | false => rw [mergeL_no lt a b h, List.length_cons, mergeL_len a (y :: b)]; simp; omega
termination_by a b => a.length + b.length
theorem mergeL_mem : ∀ (a b : List α) (z : α), z ∈ mergeL lt a b ↔ z ∈ a ∨ z ∈ b
  | [], b, z => by rw [mergeL_nil_left]; simp
  | x :: a, [], z => by rw [mergeL_nil_right]; simp
  | x :: a, y :: b, z => by
    cases h : lt y x with
    | true => rw [mergeL_yes lt a b h, List.mem_cons, mergeL_mem (x :: a) b, List.mem_cons (l := b)]; exact or_left_comm
    | false => rw [mergeL_no lt a b h, List.mem_cons, mergeL_mem a (y :: b), List.mem_cons (l := a)]; exact or_assoc.symm
termination_by a b => a.length + b.length

/-- A strict weak order. -/
structure Weak : Prop where
  asym : ∀ x y, lt x y = true → lt y x = false
  neg : ∀ x y z, lt x y = false → lt y z = false → lt x z = false
variable {lt}
theorem Weak.irr (h : Weak lt) (x : α) : lt x x = false := by
  cases e : lt x x with
  | false => rfl
  | true => have := h.asym x x e; rw [e] at this; cases this
theorem Weak.trans (h : Weak lt) {x y z : α} (h1 : lt x y = true) (h2 : lt y z = true) : lt x z = true := by
  cases e : lt x z with
  | true => rfl
  | false =>
    have := h.neg x z y e (h.asym y z h2)
    rw [h1] at this; cases this
theorem Weak.lt_of_le (h : Weak lt) {x y z : α} (h1 : lt x y = true) (h2 : lt z y = false) : lt x z = true := by
  cases e : lt x z with
  | true => rfl
  | false =>
    have := h.neg x z y e h2
    rw [h1] at this; cases this
theorem Weak.le_lt (h : Weak lt) {x y z : α} (h1 : lt y x = false) (h2 : lt y z = true) : lt x z = true := by
  cases e : lt x z with
  | true => rfl
  | false =>
    have := h.neg y x z h1 e
    rw [h2] at this; cases this

theorem mergeL_assoc (h : Weak lt) : ∀ a b c : List α, mergeL lt (mergeL lt a b) c = mergeL lt a (mergeL lt b c)
  | [], b, c => by rw [mergeL_nil_left, mergeL_nil_left]
  | x :: a, [], c => by rw [mergeL_nil_right, mergeL_nil_left]
  | x :: a, y :: b, [] => by rw [mergeL_nil_right, mergeL_nil_right]
  | x :: a, y :: b, z :: c => by
    cases h1 : lt y x with
    | true =>
      rw [mergeL_yes lt a b h1]
      cases h2 : lt z y with
      | true =>
        rw [mergeL_yes lt _ c h2, mergeL_yes lt b c h2, mergeL_yes lt a _ (h.trans h2 h1), ← mergeL_yes lt a b h1, mergeL_assoc h (x :: a) (y :: b) c]
      | false =>
        rw [mergeL_no lt _ c h2, mergeL_no lt b c h2, mergeL_yes lt a _ h1, mergeL_assoc h (x :: a) b (z :: c)]
    | false =>
      rw [mergeL_no lt a b h1]
      cases h2 : lt z y with
      | true =>
        rw [mergeL_yes lt b c h2]
        cases h3 : lt z x with
        | true => rw [mergeL_yes lt _ c h3, mergeL_yes lt a _ h3, ← mergeL_no lt a b h1, mergeL_assoc h (x :: a) (y :: b) c]
        | false => rw [mergeL_no lt _ c h3, mergeL_no lt a _ h3, mergeL_assoc h a (y :: b) (z :: c), mergeL_yes lt b c h2]
      | false =>
        have h3 := h.neg z y x h2 h1
        rw [mergeL_no lt _ c h3, mergeL_no lt b c h2, mergeL_no lt a _ h1, mergeL_assoc h a (y :: b) (z :: c), mergeL_no lt b c h2]
termination_by a b c => a.length + b.length + c.length

/-- Where both lists can be cut so that all ahead of the cut comes first, the halves are merged one by one. -/
theorem mergeL_split : ∀ (a1 b1 a2 b2 : List α), (∀ x ∈ a1, ∀ y ∈ b2, lt y x = false) → (∀ x ∈ b1, ∀ y ∈ a2, lt x y = true) →
    mergeL lt (a1 ++ a2) (b1 ++ b2) = mergeL lt a1 b1 ++ mergeL lt a2 b2
  | [], [], a2, b2, _, _ => by rw [mergeL_nil_left]; rfl
  | [], y :: b1, [], b2, _, _ => by rw [mergeL_nil_left, List.append_nil, mergeL_nil_left, mergeL_nil_left]
  | [], y :: b1, z :: a2, b2, h1, h2 => by
    rw [mergeL_nil_left, List.nil_append, List.cons_append, mergeL_yes lt a2 (b1 ++ b2) (h2 y (List.mem_cons_self ..) z (List.mem_cons_self ..))]
    have := mergeL_split [] b1 (z :: a2) b2 (fun x hx => by cases hx) (fun x hx => h2 x (List.mem_cons_of_mem _ hx))
    rw [List.nil_append, mergeL_nil_left] at this
    rw [this]; rfl
  | x :: a1, [], a2, [], _, _ => by rw [List.append_nil, mergeL_nil_right, mergeL_nil_right, mergeL_nil_right]
  | x :: a1, [], a2, y :: b2, h1, h2 => by
    rw [mergeL_nil_right, List.nil_append, List.cons_append, mergeL_no lt (a1 ++ a2) b2 (h1 x (List.mem_cons_self ..) y (List.mem_cons_self ..))]
    have := mergeL_split a1 [] a2 (y :: b2) (fun x hx => h1 x (List.mem_cons_of_mem _ hx)) (fun x hx => by cases hx)
    rw [List.nil_append, mergeL_nil_right] at this
    rw [this]; rfl
  | x :: a1, y :: b1, a2, b2, h1, h2 => by
    cases h : lt y x with
    | true =>
      rw [List.cons_append, List.cons_append, mergeL_yes lt _ _ h, mergeL_yes lt a1 b1 h, List.cons_append]
      have := mergeL_split (x :: a1) b1 a2 b2 h1 (fun x hx => h2 x (List.mem_cons_of_mem _ hx))
      rw [List.cons_append] at this
      rw [this]
    | false =>
      rw [List.cons_append, List.cons_append, mergeL_no lt _ _ h, mergeL_no lt a1 b1 h, List.cons_append]
      have := mergeL_split a1 (y :: b1) a2 b2 (fun x hx => h1 x (List.mem_cons_of_mem _ hx)) h2
      rw [List.cons_append] at this
      rw [this]
termination_by a1 b1 => a1.length + b1.length

variable (lt)
def SortedL (l : List α) : Prop := l.Pairwise fun x y => lt y x = false
variable {lt}
theorem mergeL_sorted (h : Weak lt) : ∀ a b : List α, SortedL lt a → SortedL lt b → SortedL lt (mergeL lt a b)
  | [], b, _, hb => by rw [mergeL_nil_left]; exact hb
  | x :: a, [], ha, _ => by rw [mergeL_nil_right]; exact ha
  | x :: a, y :: b, ha, hb => by
    have ha' := List.pairwise_cons.1 ha
    have hb' := List.pairwise_cons.1 hb
    cases e : lt y x with
    | true =>
      rw [mergeL_yes lt a b e]
      refine List.pairwise_cons.2 ⟨fun z hz => ?_, mergeL_sorted h (x :: a) b ha hb'.2⟩
      rcases (mergeL_mem lt _ _ z).1 hz with hz | hz
      · rcases List.mem_cons.1 hz with rfl | hz
        · exact h.asym _ _ e
        · exact h.neg _ _ _ (ha'.1 z hz) (h.asym _ _ e)
      · exact hb'.1 z hz
    | false =>
      rw [mergeL_no lt a b e]
      refine List.pairwise_cons.2 ⟨fun z hz => ?_, mergeL_sorted h a (y :: b) ha'.2 hb⟩
      rcases (mergeL_mem lt _ _ z).1 hz with hz | hz
      · exact ha'.1 z hz
      · rcases List.mem_cons.1 hz with rfl | hz
        · exact e
        · exact h.neg _ _ _ (hb'.1 z hz) e
termination_by a b => a.length + b.length

variable (lt)
/-- The stable order of a list: one by one. -/
def sortL (l : List α) : List α := l.foldl (fun s y => mergeL lt s [y]) []
variable {lt}
theorem fold_merge (h : Weak lt) : ∀ (b s : List α), b.foldl (fun s y => mergeL lt s [y]) s = mergeL lt s (sortL lt b) := by
  intro b
  induction b with
  | nil => intro s; simp [sortL, mergeL_nil_right]
  | cons y r ih =>
    intro s
    have e : sortL lt (y :: r) = mergeL lt [y] (sortL lt r) := by
      unfold sortL
      rw [List.foldl_cons, mergeL_nil_left]
      exact ih [y]
    rw [List.foldl_cons, ih, e, mergeL_assoc h]
theorem sortL_append (h : Weak lt) (a b : List α) : sortL lt (a ++ b) = mergeL lt (sortL lt a) (sortL lt b) := by
  have e : sortL lt (a ++ b) = b.foldl (fun s y => mergeL lt s [y]) (sortL lt a) := by unfold sortL; rw [List.foldl_append]
  rw [e, fold_merge h]
theorem sortL_snoc (a : List α) (y : α) : sortL lt (a ++ [y]) = mergeL lt (sortL lt a) [y] := by
  unfold sortL; rw [List.foldl_append]; rfl
theorem sortL_sorted (h : Weak lt) : ∀ l : List α, SortedL lt (sortL lt l) := by
  have key : ∀ (l s : List α), SortedL lt s → SortedL lt (l.foldl (fun s y => mergeL lt s [y]) s) := by
    intro l
    induction l with
    | nil => intro s hs; exact hs
    | cons y r ih => intro s hs; exact ih _ (mergeL_sorted h _ _ hs (List.pairwise_singleton _ _))
  exact fun l => key l [] List.Pairwise.nil
theorem sortL_len (l : List α) : (sortL lt l).length = l.length := by
  have key : ∀ (l s : List α), (l.foldl (fun s y => mergeL lt s [y]) s).length = s.length + l.length := by
    intro l
    induction l with
    | nil => intro s; simp
    | cons y r ih => intro s; rw [List.foldl_cons, ih, mergeL_len]; simp; omega
  have := key l []
  simpa [sortL] using this

/-- One element moves back over those that it is less than. -/
theorem merge_one_back {s1 s2 : List α} {y : α} (h1 : ∀ x ∈ s1, lt y x = false) (h2 : ∀ x ∈ s2, lt y x = true) : mergeL lt (s1 ++ s2) [y] = s1 ++ y :: s2 := by
  have e := mergeL_split (lt := lt) s1 [] s2 [y] (fun x hx z hz => by simp at hz; rw [hz]; exact h1 x hx) (fun x hx => by cases hx)
  rw [List.nil_append, mergeL_nil_right] at e
  rw [e]
  cases s2 with
  | nil => rw [mergeL_nil_left]
  | cons z r => rw [mergeL_yes lt r [] (h2 z (List.mem_cons_self ..)), mergeL_nil_right]
theorem merge_one_front {r1 r2 : List α} {x : α} (h1 : ∀ y ∈ r1, lt y x = true) (h2 : ∀ y ∈ r2, lt y x = false) : mergeL lt [x] (r1 ++ r2) = r1 ++ x :: r2 := by
  have e := mergeL_split (lt := lt) [] r1 [x] r2 (fun x hx => by cases hx) (fun y hy z hz => by simp at hz; rw [hz]; exact h1 y hy)
  rw [List.nil_append, mergeL_nil_left] at e
  rw [e]
  cases r2 with
  | nil => rw [mergeL_nil_right]
  | cons z r => rw [mergeL_no lt [] r (h2 z (List.mem_cons_self ..)), mergeL_nil_left]
end

end Go.Proofs.Ytnjcelilljniaaa
