/-
  Rows of api.Row; series.merge where the first list is nil; series.Rows of no series, or of one.
-/
import Derived.OwnWalk
import Derived.Test.YtheenlomlmbjaaaGreatDoorTSmp
import Derived.BigRegion
set_option linter.unusedSimpArgs false
set_option linter.unusedVariables false
namespace Go.Proofs.YtheenlomlmbjaaaGreatDoor
open Go.RowKit

theorem ownsRow_base {W : World} {b b' e s n : Nat} {v : Value} {xs : List Value} (h : W.ownsRow b e s v n xs) (hb : b' ≤ b) : W.ownsRow b' e s v n xs :=
  ⟨h.1, h.2.imp id fun ⟨g, cap, cur, h1, h2, h3⟩ => ⟨g, cap, cur, h1, Nat.le_trans hb h2, h3⟩⟩
abbrev Rw := Int × Int × Int
def encRw (x : Rw) : List Value := [.int .i64 x.1, .int .i64 x.2.1, .int .i64 x.2.2]
theorem infoRow : (Tryz.prog.info? 119).map (fun i => (i.zero, i.size, i.bytes)) = some (some (.agg #[.int .i64 0, .int .i64 0, .int .i64 0]), 3, 24) := by kernel_rfl
theorem app_row (w : World) {ops : Array Oper} {rest : List Oper} {o : Oper} {a : Act} {Q : Exit → Act → World → Prop} (hgd : o.guard = none) (s x : Operand)
    (ho : o.op = .call { callee := .builtin .append, args := #[s, x], argTypes := #[105, 105] })
    (base : Nat) (v : Value) (l : List Rw) (y : Rw) (g : Nat) (hs : a.eval s = v) (hx : a.eval x = .slice (some ⟨g, 0, none⟩) 1 1)
    (hnew : w.heap[g]? = some (.cells #[.int .i64 y.1, .int .i64 y.2.1, .int .i64 y.2.2] 119 (0, 0))) (hown : OwnR 119 3 encRw w base v l) (hbase : base ≤ w.heap.size) (hlen : l.length ≤ 1000000000)
    (h : ∀ g' cap w', OwnR 119 3 encRw w' base (.slice (some ⟨g', 0, none⟩) (l.length + 1) cap) (l ++ [y]) → Below base w w' → wpList Tryz.prog ops Q rest (a.put o.dst (.slice (some ⟨g', 0, none⟩) (l.length + 1) cap)) w') :
    wpList Tryz.prog ops Q (o :: rest) a w := by
  obtain ⟨i0, hi, hz0, hz1, hz2⟩ := info_parts infoRow
  refine wpList_append_lies w hgd s x 105 ho base 119 i0 _ 3 24 Tryz.underlying105 hi hz0 hz1 hz2 rfl (by decide) v l.length _ hs hown
    ⟨g, 0, none⟩ 1 1 [.int .i64 y.1, .int .i64 y.2.1, .int .i64 y.2.2] hx rfl (World.news_of_block hnew) ?_ (by omega) (by simp only [maxLen]; omega) (by omega) hbase _ rfl ?_
  · intro u hu
    simp at hu; rcases hu with rfl | rfl | rfl <;> rfl
  · intro g' cap w' h1 h2 _ _
    refine h g' cap w' ?_ ((Below.refl _ _).grown h2 hbase (fun k hk => (hown.lt k hk).1))
    unfold OwnR
    simpa [encRw] using h1

theorem OwnR.src {α : Type} {t k : Nat} {enc : α → List Value} {w : World} {base : Nat} {v : Value} {l : List α} (h : OwnR t k enc w base v l) :
    ∃ ao cap, v = .slice ao l.length cap ∧ l.length ≤ cap ∧ cap ≤ 9223372036854775807 ∧ (l.flatMap enc).length = l.length * k ∧ (ao = none → l.length = 0 ∧ cap = 0) ∧ ∀ ad, ao = some ad → ∀ j u, (l.flatMap enc)[j]? = some u → w.cell? (ad.add j) = some u := by
  obtain ⟨h1, h2⟩ := h
  rcases h2 with ⟨rfl, h0⟩ | ⟨g, cap, cur, rfl, hg, hh, hn, hcap, hs, htake⟩
  · exact ⟨none, 0, by rw [h0], by omega, by omega, h1, fun _ => ⟨h0, rfl⟩, fun ad e => by cases e⟩
  · refine ⟨_, cap, rfl, hn, by simp only [maxLen] at hcap; omega, h1, fun e => (by cases e), fun ad e j u hj => ?_⟩
    cases e
    rw [Addr.add_lit, cell_of_row w g _ cur t (0, 0) hh, Nat.zero_add]
    rw [← htake, List.getElem?_take] at hj
    split at hj
    · simpa using hj
    · cases hj
theorem OwnR.base {α : Type} {t k : Nat} {enc : α → List Value} {w : World} {b b' : Nat} {v : Value} {l : List α} (h : OwnR t k enc w b v l) (hb : b' ≤ b) : OwnR t k enc w b' v l := ownsRow_base h hb
end Go.Proofs.YtheenlomlmbjaaaGreatDoor

namespace Go.Proofs.YtheenlomlmbjaaaGreatDoor

section
variable {α : Type} (lt : α → α → Bool)

def mergeL : List α → List α → List α
  | [], b => b
  | x :: a, [] => x :: a
  | x :: a, y :: b => if lt y x then y :: mergeL (x :: a) b else x :: mergeL a (y :: b)
termination_by a b => a.length + b.length

theorem mergeL_nil_left (b : List α) : mergeL lt [] b = b := by rw [mergeL]
theorem mergeL_nil_right (a : List α) : mergeL lt a [] = a := by cases a <;> rw [mergeL]
theorem mergeL_yes {x y : α} (a b : List α) (h : lt y x = true) : mergeL lt (x :: a) (y :: b) = y :: mergeL lt (x :: a) b := by rw [mergeL, if_pos h]
theorem mergeL_no {x y : α} (a b : List α) (h : lt y x = false) : mergeL lt (x :: a) (y :: b) = x :: mergeL lt a (y :: b) := by rw [mergeL, if_neg (by rw [h]; exact Bool.false_ne_true)]
theorem mergeL_len : ∀ a b : List α, (mergeL lt a b).length = a.length + b.length
  | [], b => by rw [mergeL_nil_left]; simp
  | x :: a, [] => by rw [mergeL_nil_right]; simp
  | x :: a, y :: b => by
    cases h : lt y x with
    | true => rw [mergeL_yes lt a b h, List.length_cons, mergeL_len (x :: a) b]; simp; omega
    | false => rw [mergeL_no lt a b h, List.length_cons, mergeL_len a (y :: b)]; simp; omega
termination_by a b => a.length + b.length
theorem mergeL_mem : ∀ (a b : List α) (z : α), z ∈ mergeL lt a b ↔ z ∈ a ∨ z ∈ b
  | [], b, z => by rw [mergeL_nil_left]; simp
  | x :: a, [], z => by rw [mergeL_nil_right]; simp
  | x :: a, y :: b, z => by
    cases h : lt y x with
    | true => rw [mergeL_yes lt a b h, List.mem_cons, mergeL_mem (x :: a) b, List.mem_cons (l := b)]; exact or_left_comm
    | false => rw [mergeL_no lt a b h, List.mem_cons, mergeL_mem a (y :: b), List.mem_cons (l := a)]; exact or_assoc.symm
termination_by a b => a.length + b.length

structure Weak : Prop where
  asym : ∀ x y, lt x y = true → lt y x = false
  neg : ∀ x y z, lt x y = false → lt y z = false → lt x z = false
variable {lt}
theorem Weak.trans (h : Weak lt) {x y z : α} (h1 : lt x y = true) (h2 : lt y z = true) : lt x z = true := by
  cases e : lt x z with
  | true => rfl
  | false =>
    have := h.neg x z y e (h.asym y z h2)
    rw [h1] at this; cases this
theorem mergeL_assoc (h : Weak lt) : ∀ a b c : List α, mergeL lt (mergeL lt a b) c = mergeL lt a (mergeL lt b c)
  | [], b, c => by rw [mergeL_nil_left, mergeL_nil_left]
  | x :: a, [], c => by rw [mergeL_nil_right, mergeL_nil_left]
  | x :: a, y :: b, [] => by rw [mergeL_nil_right, mergeL_nil_right]
  | x :: a, y :: b, z :: c => by
    cases h1 : lt y x with
    | true =>
      rw [mergeL_yes lt a b h1]
      cases h2 : lt z y with
      | true =>
        rw [mergeL_yes lt _ c h2, mergeL_yes lt b c h2, mergeL_yes lt a _ (h.trans h2 h1), ← mergeL_yes lt a b h1, mergeL_assoc h (x :: a) (y :: b) c]
      | false =>
        rw [mergeL_no lt _ c h2, mergeL_no lt b c h2, mergeL_yes lt a _ h1, mergeL_assoc h (x :: a) b (z :: c)]
    | false =>
      rw [mergeL_no lt a b h1]
      cases h2 : lt z y with
      | true =>
        rw [mergeL_yes lt b c h2]
        cases h3 : lt z x with
        | true => rw [mergeL_yes lt _ c h3, mergeL_yes lt a _ h3, ← mergeL_no lt a b h1, mergeL_assoc h (x :: a) (y :: b) c]
        | false => rw [mergeL_no lt _ c h3, mergeL_no lt a _ h3, mergeL_assoc h a (y :: b) (z :: c), mergeL_yes lt b c h2]
      | false =>
        have h3 := h.neg z y x h2 h1
        rw [mergeL_no lt _ c h3, mergeL_no lt b c h2, mergeL_no lt a _ h1, mergeL_assoc h a (y :: b) (z :: c), mergeL_no lt b c h2]
termination_by a b c => a.length + b.length + c.length

theorem mergeL_split : ∀ (a1 b1 a2 b2 : List α), (∀ x ∈ a1, ∀ y ∈ b2, lt y x = false) → (∀ x ∈ b1, ∀ y ∈ a2, lt x y = true) →
    mergeL lt (a1 ++ a2) (b1 ++ b2) = mergeL lt a1 b1 ++ mergeL lt a2 b2
  | [], [], a2, b2, _, _ => by rw [mergeL_nil_left]; rfl
  | [], y :: b1, [], b2, _, _ => by rw [mergeL_nil_left, List.append_nil, mergeL_nil_left, mergeL_nil_left]
  | [], y :: b1, z :: a2, b2, h1, h2 => by
    rw [mergeL_nil_left, List.nil_append, List.cons_append, mergeL_yes lt a2 (b1 ++ b2) (h2 y (List.mem_cons_self ..) z (List.mem_cons_self ..))]
    have := mergeL_split [] b1 (z :: a2) b2 (fun x hx => by cases hx) (fun x hx => h2 x (List.mem_cons_of_mem _ hx))
    rw [List.nil_append, mergeL_nil_left] at this
    rw [this]; rfl
  | x :: a1, [], a2, [], _, _ => by rw [List.append_nil, mergeL_nil_right, mergeL_nil_right, mergeL_nil_right]
  | x :: a1, [], a2, y :: b2, h1, h2 => by
    rw [mergeL_nil_right, List.nil_append, List.cons_append, mergeL_no lt (a1 ++ a2) b2 (h1 x (List.mem_cons_self ..) y (List.mem_cons_self ..))]
    have := mergeL_split a1 [] a2 (y :: b2) (fun x hx => h1 x (List.mem_cons_of_mem _ hx)) (fun x hx => by cases hx)
    rw [List.nil_append, mergeL_nil_right] at this
    rw [this]; rfl
  | x :: a1, y :: b1, a2, b2, h1, h2 => by
    cases h : lt y x with
    | true =>
      rw [List.cons_append, List.cons_append, mergeL_yes lt _ _ h, mergeL_yes lt a1 b1 h, List.cons_append]
      have := mergeL_split (x :: a1) b1 a2 b2 h1 (fun x hx => h2 x (List.mem_cons_of_mem _ hx))
      rw [List.cons_append] at this
      rw [this]
    | false =>
      rw [List.cons_append, List.cons_append, mergeL_no lt _ _ h, mergeL_no lt a1 b1 h, List.cons_append]
      have := mergeL_split a1 (y :: b1) a2 b2 (fun x hx => h1 x (List.mem_cons_of_mem _ hx)) h2
      rw [List.cons_append] at this
      rw [this]
termination_by a1 b1 => a1.length + b1.length

variable (lt)
def SortedL (l : List α) : Prop := l.Pairwise fun x y => lt y x = false
variable {lt}
theorem mergeL_sorted (h : Weak lt) : ∀ a b : List α, SortedL lt a → SortedL lt b → SortedL lt (mergeL lt a b)
  | [], b, _, hb => by rw [mergeL_nil_left]; exact hb
  | x :: a, [], ha, _ => by rw [mergeL_nil_right]; exact ha
  | x :: a, y :: b, ha, hb => by
    have ha' := List.pairwise_cons.1 ha
    have hb' := List.pairwise_cons.1 hb
    cases e : lt y x with
    | true =>
      rw [mergeL_yes lt a b e]
      refine List.pairwise_cons.2 ⟨fun z hz => ?_, mergeL_sorted h (x :: a) b ha hb'.2⟩
      rcases (mergeL_mem lt _ _ z).1 hz with hz | hz
      · rcases List.mem_cons.1 hz with rfl | hz
        · exact h.asym _ _ e
        · exact h.neg _ _ _ (ha'.1 z hz) (h.asym _ _ e)
      · exact hb'.1 z hz
    | false =>
      rw [mergeL_no lt a b e]
      refine List.pairwise_cons.2 ⟨fun z hz => ?_, mergeL_sorted h a (y :: b) ha'.2 hb⟩
      rcases (mergeL_mem lt _ _ z).1 hz with hz | hz
      · exact ha'.1 z hz
      · rcases List.mem_cons.1 hz with rfl | hz
        · exact e
        · exact h.neg _ _ _ (hb'.1 z hz) e
termination_by a b => a.length + b.length

variable (lt)
def sortL (l : List α) : List α := l.foldl (fun s y => mergeL lt s [y]) []
variable {lt}
theorem fold_merge (h : Weak lt) : ∀ (b s : List α), b.foldl (fun s y => mergeL lt s [y]) s = mergeL lt s (sortL lt b) := by
  intro b
  induction b with
  | nil => intro s; simp [sortL, mergeL_nil_right]
  | cons y r ih =>
    intro s
    have e : sortL lt (y :: r) = mergeL lt [y] (sortL lt r) := by
      unfold sortL
      rw [List.foldl_cons, mergeL_nil_left]
      exact ih [y]
    rw [List.foldl_cons, ih, e, mergeL_assoc h]
theorem sortL_append (h : Weak lt) (a b : List α) : sortL lt (a ++ b) = mergeL lt (sortL lt a) (sortL lt b) := by
  have e : sortL lt (a ++ b) = b.foldl (fun s y => mergeL lt s [y]) (sortL lt a) := by unfold sortL; rw [List.foldl_append]
  rw [e, fold_merge h]
theorem sortL_snoc (a : List α) (y : α) : sortL lt (a ++ [y]) = mergeL lt (sortL lt a) [y] := by
  unfold sortL; rw [List.foldl_append]; rfl
theorem sortL_sorted (h : Weak lt) : ∀ l : List α, SortedL lt (sortL lt l) := by
  have key : ∀ (l s : List α), SortedL lt s → SortedL lt (l.foldl (fun s y => mergeL lt s [y]) s) := by
    intro l
    induction l with
    | nil => intro s hs; exact hs
    | cons y r ih => intro s hs; exact ih _ (mergeL_sorted h _ _ hs (List.pairwise_singleton _ _))
  exact fun l => key l [] List.Pairwise.nil
theorem sortL_len (l : List α) : (sortL lt l).length = l.length := by
  have key : ∀ (l s : List α), (l.foldl (fun s y => mergeL lt s [y]) s).length = s.length + l.length := by
    intro l
    induction l with
    | nil => intro s; simp
    | cons y r ih => intro s; rw [List.foldl_cons, ih, mergeL_len]; simp; omega
  have := key l []
  simpa [sortL] using this

theorem merge_one_back {s1 s2 : List α} {y : α} (h1 : ∀ x ∈ s1, lt y x = false) (h2 : ∀ x ∈ s2, lt y x = true) : mergeL lt (s1 ++ s2) [y] = s1 ++ y :: s2 := by
  have e := mergeL_split (lt := lt) s1 [] s2 [y] (fun x hx z hz => by simp at hz; rw [hz]; exact h1 x hx) (fun x hx => by cases hx)
  rw [List.nil_append, mergeL_nil_right] at e
  rw [e]
  cases s2 with
  | nil => rw [mergeL_nil_left]
  | cons z r => rw [mergeL_yes lt r [] (h2 z (List.mem_cons_self ..)), mergeL_nil_right]
theorem merge_one_front {r1 r2 : List α} {x : α} (h1 : ∀ y ∈ r1, lt y x = true) (h2 : ∀ y ∈ r2, lt y x = false) : mergeL lt [x] (r1 ++ r2) = r1 ++ x :: r2 := by
  have e := mergeL_split (lt := lt) [] r1 [x] r2 (fun x hx => by cases hx) (fun y hy z hz => by simp at hz; rw [hz]; exact h1 y hy)
  rw [List.nil_append, mergeL_nil_left] at e
  rw [e]
  cases r2 with
  | nil => rw [mergeL_nil_right]
  | cons z r => rw [mergeL_no lt [] r (h2 z (List.mem_cons_self ..)), mergeL_nil_left]
end

end Go.Proofs.YtheenlomlmbjaaaGreatDoor

namespace Go.Proofs.YtheenlomlmbjaaaGreatDoor
open Go.RowKit

theorem gb_refl (w : World) (pb : Option Nat) : w.grownBy w pb := ⟨rfl, rfl, rfl, Nat.le_refl _, fun _ _ _ => rfl⟩
theorem gb_trans {w w1 w2 : World} {pb : Option Nat} (h : w.grownBy w1 pb) (h2 : w1.grownBy w2 pb) : w.grownBy w2 pb :=
  ⟨h2.os.trans h.os, h2.tape.trans h.tape, h2.output.trans h.output, Nat.le_trans h.size h2.size, fun k hk hne => (h2.block k (Nat.lt_of_lt_of_le hk h.size) hne).trans (h.block k hk hne)⟩

abbrev El := Smp
def el0 : El := (0, 0)
def cA (x : El) : Value := .int .i64 x.1
def cB (x : El) : Value := .int .i64 x.2
def encSE (x : El) : List Value := [cA x, cB x]
def RowE (w : World) (g cap : Nat) (l : List El) : Prop :=
  l.length ≤ cap ∧ cap ≤ maxLen ∧ ∃ cur : Array Value, w.heap[g]? = some (.cells cur 211 (0, 0)) ∧ cur.size = cap * 2 ∧ cur.toList.take (l.length * 2) = l.flatMap encSE
theorem RowE.lt {w : World} {g cap : Nat} {l : List El} (h : RowE w g cap l) : g < w.heap.size := by
  obtain ⟨_, _, cur, h4, _⟩ := h; exact lt_of_heap h4
theorem RowE.at_ {w : World} {g cap i : Nat} {l : List El} (h : RowE w g cap l) (hi : i < l.length) :
    w.cell? ⟨g, i * 2, none⟩ = some (cA (l.getD i el0)) ∧ w.cell? ⟨g, i * 2 + 1, none⟩ = some (cB (l.getD i el0)) := by
  obtain ⟨h2, h3, cur, h4, h5, h6⟩ := h
  have hc : ∀ j, j < 2 → w.cell? ⟨g, i * 2 + j, none⟩ = (encSE (l.getD i el0))[j]? := by
    intro j hj
    rw [cell_of_row w g _ cur _ (0, 0) h4, ← flat_at (enc := encSE) (k := 2) (fun _ => rfl) el0 l i j hi hj, ← h6, List.getElem?_take, if_pos (by omega)]
    simp
  exact ⟨hc 0 (by omega), hc 1 (by omega)⟩
theorem RowE.frozen {w : World} {g cap : Nat} {l : List El} (h : RowE w g cap l) (i : Nat) : w.frozen? ⟨g, i, none⟩ = false := by
  obtain ⟨_, _, cur, h4, _⟩ := h; exact Lib.frozen_of_heap h4 i
theorem RowE.below {w w' : World} {g cap B : Nat} {l : List El} (h : RowE w g cap l) (hb : Below B w w') (hg : g < B) : RowE w' g cap l := by
  obtain ⟨h2, h3, cur, h4, h5, h6⟩ := h
  exact ⟨h2, h3, cur, (hb.block g hg).trans h4, h5, h6⟩
theorem heap_setE {w : World} {b j : Nat} {v : Value} {cs : Array Value} {t : TypeId} (h : w.heap[b]? = some (.cells cs t (0, 0))) : (w.setCell ⟨b, j, none⟩ v).heap[b]? = some (.cells (cs.setIfInBounds j v) t (0, 0)) := by
  obtain ⟨hlt, hk⟩ := Array.getElem?_eq_some_iff.1 h
  show (w.heap.modify b _)[b]? = _
  rw [Array.getElem?_eq_getElem (by rw [Array.size_modify]; exact hlt), Array.getElem_modify_self, hk]
  rfl
theorem flat_setE {m : List El} {i : Nat} (x : El) (hi : i < m.length) : ((m.flatMap encSE).set (i * 2) (cA x)).set (i * 2 + 1) (cB x) = (m.set i x).flatMap encSE := by
  induction m generalizing i with
  | nil => simp at hi
  | cons y r ih =>
    cases i with
    | zero => simp [encSE]
    | succ j =>
      have e : (j + 1) * 2 = j * 2 + 1 + 1 := by omega
      have := ih (i := j) (by simpa using hi)
      simp only [List.flatMap_cons, encSE, e, List.cons_append, List.nil_append, List.set_cons_succ] at this ⊢
      rw [← this]
theorem RowE.set {w : World} {g cap i : Nat} {l : List El} (h : RowE w g cap l) (x : El) (hi : i < l.length) :
    RowE ((w.setCell ⟨g, i * 2, none⟩ (cA x)).setCell ⟨g, i * 2 + 1, none⟩ (cB x)) g cap (l.set i x) := by
  obtain ⟨h2, h3, cur, h4, h5, h6⟩ := h
  refine ⟨by rw [List.length_set]; exact h2, h3, _, heap_setE (heap_setE h4), by simp [h5], ?_⟩
  rw [List.length_set, ← flat_setE x hi, ← h6]
  simp only [Array.toList_setIfInBounds]
  rw [List.take_set, List.take_set]
def swapE (l : List El) (i j : Nat) : List El := (l.set i (l.getD j el0)).set j (l.getD i el0)
theorem RowE.swap {w : World} {g cap i j : Nat} {l : List El} (h : RowE w g cap l) (hi : i < l.length) (hj : j < l.length) :
    RowE ((((w.setCell ⟨g, i * 2, none⟩ (cA (l.getD j el0))).setCell ⟨g, i * 2 + 1, none⟩ (cB (l.getD j el0))).setCell ⟨g, j * 2, none⟩ (cA (l.getD i el0))).setCell ⟨g, j * 2 + 1, none⟩ (cB (l.getD i el0))) g cap (swapE l i j) :=
  (h.set _ hi).set _ (by rw [List.length_set]; exact hj)
theorem swapE_len (l : List El) (i j : Nat) : (swapE l i j).length = l.length := by simp [swapE]
theorem getD_mid (A B : List El) (x : El) : (A ++ x :: B).getD A.length el0 = x := by simp [List.getD]
theorem set_mid (A B : List El) (x y : El) : (A ++ x :: B).set A.length y = A ++ y :: B := by simp
theorem swapE_mid (A B C : List El) (x y : El) : swapE (A ++ x :: (B ++ y :: C)) A.length (A.length + 1 + B.length) = A ++ y :: (B ++ x :: C) := by
  have e1 : (A ++ x :: (B ++ y :: C)).getD A.length el0 = x := getD_mid _ _ _
  have e2 : (A ++ x :: (B ++ y :: C)).getD (A.length + 1 + B.length) el0 = y := by
    have h := getD_mid (A ++ x :: B) C y
    rw [List.append_assoc, List.cons_append] at h
    rw [show A.length + 1 + B.length = (A ++ x :: B).length by simp; omega]
    exact h
  unfold swapE
  rw [e1, e2, set_mid]
  have h := set_mid (A ++ y :: B) C y x
  rw [List.append_assoc, List.cons_append, List.append_assoc, List.cons_append] at h
  rw [show A.length + 1 + B.length = (A ++ y :: B).length by simp; omega]
  exact h
theorem RowE.drew {w : World} {g cap : Nat} {l : List El} (h : RowE w g cap l) (n : Nat) : RowE (w.drewN n) g cap l := h
theorem RowE.drew1 {w : World} {g cap : Nat} {l : List El} (h : RowE w g cap l) : RowE w.drew g cap l := h
theorem gb_drewN {w w1 : World} {pb : Option Nat} (h : w.grownBy w1 pb) (n : Nat) : w.grownBy (w1.drewN n) pb := ⟨h.os, h.tape, h.output, h.size, h.block⟩
theorem gb_drew1 {w w1 : World} {pb : Option Nat} (h : w.grownBy w1 pb) : w.grownBy w1.drew pb := ⟨h.os, h.tape, h.output, h.size, h.block⟩
theorem gb_setE {w w1 : World} {pb : Nat} (h : w.grownBy w1 (some pb)) (j : Nat) (v : Value) : w.grownBy (w1.setCell ⟨pb, j, none⟩ v) (some pb) :=
  ⟨h.os, h.tape, h.output, by have := h.size; simpa [World.setCell] using this, fun k hk hne => (Below.heap_setCell _ _ _ _ (fun e => hne (by simp [e]))).trans (h.block k hk hne)⟩
theorem gb_swap {w : World} {g : Nat} (v0 v1 v2 v3 : Value) (p0 p1 p2 p3 : Nat) : w.grownBy ((((w.setCell ⟨g, p0, none⟩ v0).setCell ⟨g, p1, none⟩ v1).setCell ⟨g, p2, none⟩ v2).setCell ⟨g, p3, none⟩ v3) (some g) :=
  gb_setE (gb_setE (gb_setE (gb_setE (gb_refl w (some g)) p0 v0) p1 v1) p2 v2) p3 v3

end Go.Proofs.YtheenlomlmbjaaaGreatDoor
