/-
  Plain: what the loops over a list of ints tell.
-/
import Derived.Test.YtlbnofaehkdlpaaPlain6
namespace Go.Proofs.Ytlbnofaehkdlpaa

def Adj (xs : List Int) (k : Nat) : Prop := ∀ i, 0 < i → i < k → xs.getD (i - 1) 0 < xs.getD i 0
theorem Adj.succ {xs : List Int} {k : Nat} (h : Adj xs k) (hk : k = 0 ∨ xs.getD (k - 1) 0 < xs.getD k 0) : Adj xs (k + 1) := by
  intro i h0 hi
  by_cases e : i = k
  · subst e; rcases hk with h | h
    · omega
    · exact h
  · exact h i h0 (by omega)
theorem getD_eq {xs : List Int} {i : Nat} (h : i < xs.length) : xs.getD i 0 = xs[i] := by simp [List.getD, List.getElem?_eq_getElem h]
theorem rising_adj (xs : List Int) : Rising xs ↔ Adj xs xs.length := by
  constructor
  · intro h i h0 hi
    rw [getD_eq hi, getD_eq (show i - 1 < xs.length by omega)]
    exact List.pairwise_iff_getElem.1 h (i - 1) i (by omega) hi (by omega)
  · intro h
    refine List.pairwise_iff_getElem.2 fun i j hi hj hij => ?_
    have key : ∀ d, i + d + 1 < xs.length → xs.getD i 0 < xs.getD (i + d + 1) 0 := by
      intro d
      induction d with
      | zero => intro hd; exact h (i + 1) (by omega) (by omega)
      | succ d ih =>
        intro hd
        have h1 := ih (by omega)
        have h2 := h (i + d + 1 + 1) (by omega) (by omega)
        simp only [Nat.add_sub_cancel] at h2
        exact Int.lt_trans h1 h2
    have := key (j - i - 1) (by omega)
    rw [show i + (j - i - 1) + 1 = j by omega, getD_eq hi, getD_eq hj] at this
    exact this
instance (xs : List Int) : Decidable (Rising xs) := by unfold Rising; infer_instance
def risesB (xs : List Int) : Bool := decide (Rising xs)
theorem risesB_yes {xs : List Int} (h : Adj xs xs.length) : risesB xs = true := decide_eq_true ((rising_adj xs).2 h)
theorem risesB_no {xs : List Int} {k : Nat} (h0 : 0 < k) (hk : k < xs.length) (h : ¬ xs.getD (k - 1) 0 < xs.getD k 0) : risesB xs = false :=
  decide_eq_false fun hr => h ((rising_adj xs).1 hr k h0 hk)
theorem risesB_of {xs : List Int} (h : Rising xs) : risesB xs = true := decide_eq_true h

def AgreeN (xs ys : List Int) (k : Nat) : Prop := ∀ i, i < k → xs.getD i 0 = ys.getD i 0
theorem AgreeN.succ {xs ys : List Int} {k : Nat} (h : AgreeN xs ys k) (hk : xs.getD k 0 = ys.getD k 0) : AgreeN xs ys (k + 1) := by
  intro i hi
  by_cases e : i = k
  · subst e; exact hk
  · exact h i (by omega)
def sameB (xs ys : List Int) : Bool := decide (xs = ys)
theorem sameB_len {xs ys : List Int} (h : xs.length ≠ ys.length) : sameB xs ys = false := decide_eq_false fun e => h (by rw [e])
theorem sameB_no {xs ys : List Int} {k : Nat} (h : xs.getD k 0 ≠ ys.getD k 0) : sameB xs ys = false := decide_eq_false fun e => h (by rw [e])
theorem sameB_yes {xs ys : List Int} (hl : xs.length = ys.length) (h : AgreeN xs ys xs.length) : sameB xs ys = true := by
  refine decide_eq_true (List.ext_getElem hl fun i h1 h2 => ?_)
  have := h i h1
  rwa [getD_eq h1, getD_eq h2] at this
theorem sameB_refl (xs : List Int) : sameB xs xs = true := decide_eq_true rfl

def hasB (xs : List Int) (n : Int) : Bool := decide (n ∈ xs)
def NoneN (xs : List Int) (n : Int) (k : Nat) : Prop := ∀ i, i < k → xs.getD i 0 ≠ n
theorem NoneN.succ {xs : List Int} {n : Int} {k : Nat} (h : NoneN xs n k) (hk : xs.getD k 0 ≠ n) : NoneN xs n (k + 1) := by
  intro i hi
  by_cases e : i = k
  · subst e; exact hk
  · exact h i (by omega)
theorem hasB_yes {xs : List Int} {n : Int} {k : Nat} (hk : k < xs.length) (h : xs.getD k 0 = n) : hasB xs n = true := by
  refine decide_eq_true ?_
  rw [getD_eq hk] at h
  rw [← h]; exact List.getElem_mem hk
theorem hasB_no {xs : List Int} {n : Int} (h : NoneN xs n xs.length) : hasB xs n = false := by
  refine decide_eq_false fun hm => ?_
  obtain ⟨i, hi, e⟩ := List.getElem_of_mem hm
  exact h i hi (by rw [getD_eq hi]; exact e)

/-- Where a search by halves stands. -/
def Half (xs : List Int) (n : Int) (i j : Nat) : Prop := (∀ t, t < i → xs.getD t 0 < n) ∧ (∀ t, j ≤ t → t < xs.length → n ≤ xs.getD t 0)
theorem Half.start (xs : List Int) (n : Int) : Half xs n 0 xs.length := ⟨fun t h => by omega, fun t h h' => by omega⟩
theorem rising_le {xs : List Int} (h : Rising xs) {i j : Nat} (hij : i ≤ j) (hj : j < xs.length) : xs.getD i 0 ≤ xs.getD j 0 := by
  by_cases e : i = j
  · subst e; exact Int.le_refl _
  · rw [getD_eq hj, getD_eq (show i < xs.length by omega)]
    exact Int.le_of_lt (List.pairwise_iff_getElem.1 h i j (by omega) hj (by omega))
theorem Half.up {xs : List Int} {n : Int} {i j h : Nat} (hr : Rising xs) (hh : Half xs n i j) (hl : h < xs.length) (hx : xs.getD h 0 < n) : Half xs n (h + 1) j :=
  ⟨fun t ht => Int.lt_of_le_of_lt (rising_le hr (by omega) hl) hx, hh.2⟩
theorem Half.down {xs : List Int} {n : Int} {i j h : Nat} (hr : Rising xs) (hh : Half xs n i j) (hx : ¬ xs.getD h 0 < n) : Half xs n i h :=
  ⟨hh.1, fun t ht hl => Int.le_trans (Int.not_lt.1 hx) (rising_le hr ht hl)⟩
theorem Half.no {xs : List Int} {n : Int} {i : Nat} (hr : Rising xs) (hh : Half xs n i i) (h : xs.length ≤ i ∨ xs.getD i 0 ≠ n) : hasB xs n = false := by
  refine hasB_no fun t ht => ?_
  intro e
  rcases Nat.lt_trichotomy t i with h1 | h1 | h1
  · have := hh.1 t h1; omega
  · subst h1; rcases h with h | h
    · omega
    · exact h e
  · have h2 := hh.2 i (Nat.le_refl _) (by omega)
    rw [getD_eq ht] at e
    have h3 := List.pairwise_iff_getElem.1 hr i t (by omega) ht h1
    rw [getD_eq (show i < xs.length by omega)] at h2
    omega
end Go.Proofs.Ytlbnofaehkdlpaa
