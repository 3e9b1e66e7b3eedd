/-
  Plain lists of ints: the rising ones of a list; two rising lists merged; lists that rise are told by what is in them.
-/
namespace Go.Proofs.Ytlbnofaehkdlpaa

/-- It rises: each element is greater than the one before it. -/
def Rising (l : List Int) : Prop := l.Pairwise (· < ·)

/-- One more element for the rising ones. -/
def rstep (out : List Int) (x : Int) : List Int :=
  if out.length = 0 then [x] else if out.getD (out.length - 1) 0 < x then out ++ [x] else out

def Rz (xs : List Int) (k : Nat) : List Int := (xs.take k).foldl rstep []

theorem Rz_zero (xs : List Int) : Rz xs 0 = [] := by simp [Rz]
theorem Rz_succ (xs : List Int) (k : Nat) (h : k < xs.length) : Rz xs (k + 1) = rstep (Rz xs k) (xs.getD k 0) := by
  unfold Rz
  rw [List.take_add_one, List.getElem?_eq_getElem h, List.foldl_append]
  simp [List.getD, List.getElem?_eq_getElem h]
theorem rstep_le (out : List Int) (x : Int) : (rstep out x).length ≤ out.length + 1 := by
  unfold rstep
  split
  · simp
  · split <;> simp
theorem Rz_le (xs : List Int) (k : Nat) : (Rz xs k).length ≤ k := by
  induction k with
  | zero => simp [Rz_zero]
  | succ k ih =>
    by_cases h : k < xs.length
    · rw [Rz_succ xs k h]; exact Nat.le_trans (rstep_le _ _) (by omega)
    · have : Rz xs (k + 1) = Rz xs k := by unfold Rz; rw [List.take_of_length_le (by omega), List.take_of_length_le (by omega)]
      rw [this]; omega
theorem rising_snoc {l : List Int} {x : Int} (h : Rising l) (hx : l.length = 0 ∨ l.getD (l.length - 1) 0 < x) : Rising (l ++ [x]) := by
  unfold Rising at *
  rw [List.pairwise_append]
  refine ⟨h, List.pairwise_singleton _ _, fun a ha b hb => ?_⟩
  rw [List.mem_singleton] at hb
  subst hb
  rcases hx with h0 | hx
  · rw [List.eq_nil_of_length_eq_zero h0] at ha; cases ha
  · obtain ⟨i, hi, rfl⟩ := List.getElem_of_mem ha
    have hl : l.length - 1 < l.length := by omega
    have e : l.getD (l.length - 1) 0 = l[l.length - 1] := by simp [List.getD, List.getElem?_eq_getElem hl]
    rw [e] at hx
    by_cases hi' : i = l.length - 1
    · subst hi'; exact hx
    · have := List.pairwise_iff_getElem.1 h i (l.length - 1) hi hl (by omega)
      omega
theorem rising_rstep {l : List Int} (x : Int) (h : Rising l) : Rising (rstep l x) := by
  unfold rstep
  split
  · exact List.pairwise_singleton _ _
  · split
    · exact rising_snoc h (.inr (by assumption))
    · exact h
theorem Rz_rising (xs : List Int) (k : Nat) : Rising (Rz xs k) := by
  induction k with
  | zero => rw [Rz_zero]; exact List.Pairwise.nil
  | succ k ih =>
    by_cases h : k < xs.length
    · rw [Rz_succ xs k h]; exact rising_rstep _ ih
    · have : Rz xs (k + 1) = Rz xs k := by unfold Rz; rw [List.take_of_length_le (by omega), List.take_of_length_le (by omega)]
      rw [this]; exact ih

/-- Two rising lists with the same elements are one. -/
theorem rising_ext : ∀ {a b : List Int}, Rising a → Rising b → (∀ n, n ∈ a ↔ n ∈ b) → a = b
  | [], [], _, _, _ => rfl
  | [], y :: b, _, _, h => by have := (h y).2 (by simp); cases this
  | x :: a, [], _, _, h => by have := (h x).1 (by simp); cases this
  | x :: a, y :: b, ha, hb, h => by
    obtain ⟨ha1, ha2⟩ := List.pairwise_cons.1 ha
    obtain ⟨hb1, hb2⟩ := List.pairwise_cons.1 hb
    have hxy : x = y := by
      have h1 := (h x).1 (by simp)
      have h2 := (h y).2 (by simp)
      rcases List.mem_cons.1 h1 with e | e
      · exact e
      · rcases List.mem_cons.1 h2 with e' | e'
        · exact e'.symm
        · have := ha1 y e'; have := hb1 x e; omega
    subst hxy
    have : a = b := rising_ext ha2 hb2 (fun n => by
      constructor
      · intro hn
        rcases List.mem_cons.1 ((h n).1 (List.mem_cons_of_mem _ hn)) with e | e
        · have := ha1 n hn; omega
        · exact e
      · intro hn
        rcases List.mem_cons.1 ((h n).2 (List.mem_cons_of_mem _ hn)) with e | e
        · have := hb1 n hn; omega
        · exact e)
    rw [this]

/-! ### the merge -/
def mg (wish : Bool → Bool → Bool) : Nat → List Int → List Int → List Int
  | 0, _, _ => []
  | _ + 1, [], [] => []
  | n + 1, x :: a, [] => (if wish true false then [x] else []) ++ mg wish n a []
  | n + 1, [], y :: b => (if wish false true then [y] else []) ++ mg wish n [] b
  | n + 1, x :: a, y :: b =>
    if x < y then (if wish true false then [x] else []) ++ mg wish n a (y :: b)
    else if y < x then (if wish false true then [y] else []) ++ mg wish n (x :: a) b
    else (if wish true true then [x] else []) ++ mg wish n a b

def Inn (l : List Int) (n : Int) : Bool := decide (n ∈ l)

theorem mg_mem (wish : Bool → Bool → Bool) : ∀ (n : Nat) (a b : List Int), a.length + b.length ≤ n → Rising a → Rising b → ∀ m, m ∈ mg wish n a b ↔ ((m ∈ a ∨ m ∈ b) ∧ wish (Inn a m) (Inn b m) = true) := by
  intro n
  induction n with
  | zero => 
    intro a b h _ _ m
    have : a = [] := List.eq_nil_of_length_eq_zero (by omega)
    have : b = [] := List.eq_nil_of_length_eq_zero (by omega)
    subst_vars; simp [mg]
  | succ n ih =>
    intro a b h ha hb m
    match a, b with
    | [], [] => simp [mg]
    | x :: a, [] =>
      obtain ⟨ha1, ha2⟩ := List.pairwise_cons.1 ha
      have := ih a [] (by simp at h ⊢; omega) ha2 List.Pairwise.nil m
      simp only [mg, List.mem_append, this]
      by_cases hm : m = x
      · subst hm
        have hn : m ∉ a := fun hh => by have := ha1 m hh; omega
        simp [Inn, hn]
      · have e1 : Inn (x :: a) m = Inn a m := by simp [Inn, hm]
        have : m ∉ (if wish true false = true then [x] else []) := by split <;> simp [hm]
        simp [this, hm, e1]
    | [], y :: b =>
      obtain ⟨hb1, hb2⟩ := List.pairwise_cons.1 hb
      have := ih [] b (by simp at h ⊢; omega) List.Pairwise.nil hb2 m
      simp only [mg, List.mem_append, this]
      by_cases hm : m = y
      · subst hm
        have hn : m ∉ b := fun hh => by have := hb1 m hh; omega
        simp [Inn, hn]
      · have e1 : Inn (y :: b) m = Inn b m := by simp [Inn, hm]
        have : m ∉ (if wish false true = true then [y] else []) := by split <;> simp [hm]
        simp [this, hm, e1]
    | x :: a, y :: b =>
      obtain ⟨ha1, ha2⟩ := List.pairwise_cons.1 ha
      obtain ⟨hb1, hb2⟩ := List.pairwise_cons.1 hb
      unfold mg
      by_cases h1 : x < y
      · rw [if_pos h1, List.mem_append, ih a (y :: b) (by simp at h ⊢; omega) ha2 hb m]
        by_cases hm : m = x
        · subst hm
          have hn : m ∉ a := fun hh => by have := ha1 m hh; omega
          have hn2 : m ∉ y :: b := fun hh => by
            rcases List.mem_cons.1 hh with e | e
            · omega
            · have := hb1 m e; omega
          simp [Inn, hn, -List.mem_cons, hn2]
          cases wish true false <;> simp
        · have e1 : Inn (x :: a) m = Inn a m := by simp [Inn, hm]
          have : m ∉ (if wish true false = true then [x] else []) := by split <;> simp [hm]
          simp [this, hm, e1]
      · rw [if_neg h1]
        by_cases h2 : y < x
        · rw [if_pos h2, List.mem_append, ih (x :: a) b (by simp at h ⊢; omega) ha hb2 m]
          by_cases hm : m = y
          · subst hm
            have hn : m ∉ b := fun hh => by have := hb1 m hh; omega
            have hn2 : m ∉ x :: a := fun hh => by
              rcases List.mem_cons.1 hh with e | e
              · omega
              · have := ha1 m e; omega
            simp [Inn, hn, -List.mem_cons, hn2]
            cases wish false true <;> simp
          · have e1 : Inn (y :: b) m = Inn b m := by simp [Inn, hm]
            have : m ∉ (if wish false true = true then [y] else []) := by split <;> simp [hm]
            simp [this, hm, e1]
        · have hxy : x = y := by omega
          subst hxy
          rw [if_neg h2, List.mem_append, ih a b (by simp at h ⊢; omega) ha2 hb2 m]
          by_cases hm : m = x
          · subst hm
            have hn : m ∉ a := fun hh => by have := ha1 m hh; omega
            have hn2 : m ∉ b := fun hh => by have := hb1 m hh; omega
            simp [Inn, hn, hn2]
          · have e1 : Inn (x :: a) m = Inn a m := by simp [Inn, hm]
            have e2 : Inn (x :: b) m = Inn b m := by simp [Inn, hm]
            have : m ∉ (if wish true true = true then [x] else []) := by split <;> simp [hm]
            simp [this, hm, e1, e2]

theorem mg_more (wish : Bool → Bool → Bool) : ∀ (n m : Nat) (a b : List Int), a.length + b.length ≤ n → a.length + b.length ≤ m → mg wish n a b = mg wish m a b := by
  intro n
  induction n with
  | zero =>
    intro m a b h _
    have : a = [] := List.eq_nil_of_length_eq_zero (by omega)
    have : b = [] := List.eq_nil_of_length_eq_zero (by omega)
    subst_vars
    cases m <;> rfl
  | succ n ih =>
    intro m a b h h'
    cases m with
    | zero =>
      have : a = [] := List.eq_nil_of_length_eq_zero (by omega)
      have : b = [] := List.eq_nil_of_length_eq_zero (by omega)
      subst_vars
      rfl
    | succ m =>
      match a, b with
      | [], [] => rfl
      | x :: a, [] => 
        simp only [List.length_cons, List.length_nil] at h h'
        simp only [mg]; rw [ih m a [] (by simp; omega) (by simp; omega)]
      | [], y :: b => 
        simp only [List.length_cons, List.length_nil] at h h'
        simp only [mg]; rw [ih m [] b (by simp; omega) (by simp; omega)]
      | x :: a, y :: b => 
        simp only [List.length_cons] at h h'
        simp only [mg]; rw [ih m a (y :: b) (by simp; omega) (by simp; omega), ih m (x :: a) b (by simp; omega) (by simp; omega), ih m a b (by omega) (by omega)]

theorem rising_opt (c : Bool) (x : Int) (l : List Int) (h : Rising l) (hx : ∀ y ∈ l, x < y) : Rising ((if c then [x] else []) ++ l) := by
  split
  · exact List.pairwise_cons.2 ⟨hx, h⟩
  · exact h

theorem mg_rising (wish : Bool → Bool → Bool) : ∀ (n : Nat) (a b : List Int), a.length + b.length ≤ n → Rising a → Rising b → Rising (mg wish n a b) := by
  intro n
  induction n with
  | zero => intro a b _ _ _; simp [mg, Rising]
  | succ n ih =>
    intro a b h ha hb
    match a, b with
    | [], [] => simp [mg, Rising]
    | x :: a, [] =>
      obtain ⟨ha1, ha2⟩ := List.pairwise_cons.1 ha
      have hl : a.length + ([] : List Int).length ≤ n := by simp at h ⊢; omega
      refine rising_opt _ _ _ (ih a [] hl ha2 List.Pairwise.nil) fun y hy => ?_
      have := ((mg_mem wish n a [] hl ha2 List.Pairwise.nil y).1 hy).1
      exact ha1 y (by simpa using this)
    | [], y :: b =>
      obtain ⟨hb1, hb2⟩ := List.pairwise_cons.1 hb
      have hl : ([] : List Int).length + b.length ≤ n := by simp at h ⊢; omega
      refine rising_opt _ _ _ (ih [] b hl List.Pairwise.nil hb2) fun z hz => ?_
      have := ((mg_mem wish n [] b hl List.Pairwise.nil hb2 z).1 hz).1
      exact hb1 z (by simpa using this)
    | x :: a, y :: b =>
      obtain ⟨ha1, ha2⟩ := List.pairwise_cons.1 ha
      obtain ⟨hb1, hb2⟩ := List.pairwise_cons.1 hb
      unfold mg
      by_cases h1 : x < y
      · rw [if_pos h1]
        have hl : a.length + (y :: b).length ≤ n := by simp at h ⊢; omega
        refine rising_opt _ _ _ (ih a (y :: b) hl ha2 hb) fun z hz => ?_
        rcases ((mg_mem wish n a (y :: b) hl ha2 hb z).1 hz).1 with e | e
        · exact ha1 z e
        · rcases List.mem_cons.1 e with e | e
          · omega
          · have := hb1 z e; omega
      · rw [if_neg h1]
        by_cases h2 : y < x
        · rw [if_pos h2]
          have hl : (x :: a).length + b.length ≤ n := by simp at h ⊢; omega
          refine rising_opt _ _ _ (ih (x :: a) b hl ha hb2) fun z hz => ?_
          rcases ((mg_mem wish n (x :: a) b hl ha hb2 z).1 hz).1 with e | e
          · rcases List.mem_cons.1 e with e | e
            · omega
            · have := ha1 z e; omega
          · exact hb1 z e
        · rw [if_neg h2]
          have hxy : x = y := by omega
          subst hxy
          have hl : a.length + b.length ≤ n := by simp at h ⊢; omega
          refine rising_opt _ _ _ (ih a b hl ha2 hb2) fun z hz => ?_
          rcases ((mg_mem wish n a b hl ha2 hb2 z).1 hz).1 with e | e
          · exact ha1 z e
          · exact hb1 z e

theorem mg_le (wish : Bool → Bool → Bool) : ∀ (n : Nat) (a b : List Int), (mg wish n a b).length ≤ n := by
  intro n
  induction n with
  | zero => intro a b; simp [mg]
  | succ n ih =>
    intro a b
    have key : ∀ (c : Bool) (x : Int) (l : List Int), l.length ≤ n → ((if c then [x] else []) ++ l).length ≤ n + 1 := by
      intro c x l h; split <;> simp <;> omega
    match a, b with
    | [], [] => simp [mg]
    | x :: a, [] => exact key _ _ _ (ih _ _)
    | [], y :: b => exact key _ _ _ (ih _ _)
    | x :: a, y :: b =>
      unfold mg
      split
      · exact key _ _ _ (ih _ _)
      · split
        · exact key _ _ _ (ih _ _)
        · exact key _ _ _ (ih _ _)

end Go.Proofs.Ytlbnofaehkdlpaa
