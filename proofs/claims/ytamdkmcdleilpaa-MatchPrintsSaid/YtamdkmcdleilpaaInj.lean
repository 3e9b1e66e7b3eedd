/-
  Plain: labels that may be have different texts and different keys.
-/
import Derived.Test.YtamdkmcdleilpaaKey
import Derived.Test.YtamdkmcdleilpaaQuoted
import Derived.Test.YtamdkmcdleilpaaSame
namespace Go.Proofs.Ytamdkmcdleilpaa
open Go.RowKit

theorem name_no61 {n : Bytes} (h : nameB n = true) : (61 : UInt8) ∉ n := by
  intro hm
  simp only [nameB, Bool.and_eq_true, List.all_eq_true] at h
  exact absurd (h.2 61 hm) (by decide)
theorem cut61 : ∀ {n m a b : Bytes}, (61 : UInt8) ∉ n → (61 : UInt8) ∉ m → n ++ 61 :: a = m ++ 61 :: b → n = m ∧ a = b
  | [], [], _, _, _, _, h => ⟨rfl, by simpa using h⟩
  | [], y :: m, _, _, _, h2, h => by
    simp only [List.nil_append, List.cons_append, List.cons.injEq] at h
    exact absurd (h.1 ▸ List.mem_cons_self ..) h2
  | y :: n, [], _, _, h1, _, h => by
    simp only [List.nil_append, List.cons_append, List.cons.injEq] at h
    exact absurd (h.1 ▸ List.mem_cons_self ..) h1
  | x :: n, y :: m, _, _, h1, h2, h => by
    simp only [List.cons_append, List.cons.injEq] at h
    obtain ⟨e1, e2⟩ := cut61 (fun hm => h1 (List.mem_cons_of_mem _ hm)) (fun hm => h2 (List.mem_cons_of_mem _ hm)) h.2
    exact ⟨by rw [h.1, e1], e2⟩
theorem quoteL_cut {a b r s : Bytes} (h : quoteL a ++ r = quoteL b ++ s) : a = b ∧ r = s := by
  have h1 := qd_quote a r
  rw [h, qd_quote b s] at h1
  have e := (Prod.mk.inj h1).1.symm
  subst e
  exact ⟨rfl, List.append_cancel_left h⟩
theorem part_cut {x y : Lab} {r s : Bytes} (hx : (61 : UInt8) ∉ x.1) (hy : (61 : UInt8) ∉ y.1) (h : partOf x ++ r = partOf y ++ s) : x = y ∧ r = s := by
  unfold partOf at h
  simp only [List.append_assoc, List.cons_append] at h
  obtain ⟨e1, e2⟩ := cut61 hx hy h
  obtain ⟨e3, e4⟩ := quoteL_cut e2
  exact ⟨Prod.ext e1 e3, e4⟩
theorem tail_inj : ∀ {a b : List Lab}, (∀ x ∈ a, (61 : UInt8) ∉ x.1) → (∀ x ∈ b, (61 : UInt8) ∉ x.1) → ((a.map partOf).flatMap fun y => [44] ++ y) = ((b.map partOf).flatMap fun y => [44] ++ y) → a = b
  | [], [], _, _, _ => rfl
  | [], y :: b, _, _, h => by simp at h
  | x :: a, [], _, _, h => by simp at h
  | x :: a, y :: b, ha, hb, h => by
    simp only [List.map_cons, List.flatMap_cons, List.append_assoc, List.cons_append, List.nil_append, List.cons.injEq, true_and] at h
    obtain ⟨e1, e2⟩ := part_cut (ha x (List.mem_cons_self ..)) (hb y (List.mem_cons_self ..)) h
    rw [e1, tail_inj (fun z hz => ha z (List.mem_cons_of_mem _ hz)) (fun z hz => hb z (List.mem_cons_of_mem _ hz)) e2]
theorem part_ne (x : Lab) (r : Bytes) : partOf x ++ r ≠ [] := by simp [partOf]
theorem body_inj {a b : List Lab} (ha : ∀ x ∈ a, (61 : UInt8) ∉ x.1) (hb : ∀ x ∈ b, (61 : UInt8) ∉ x.1) (h : bodyL a = bodyL b) : a = b := by
  unfold bodyL at h
  match a, b with
  | [], [] => rfl
  | [], y :: b => exact absurd h.symm (part_ne _ _)
  | x :: a, [] => exact absurd h (part_ne _ _)
  | x :: a, y :: b =>
    obtain ⟨e1, e2⟩ := part_cut (ha x (List.mem_cons_self ..)) (hb y (List.mem_cons_self ..)) h
    rw [e1, tail_inj (fun z hz => ha z (List.mem_cons_of_mem _ hz)) (fun z hz => hb z (List.mem_cons_of_mem _ hz)) e2]
theorem chk_names {ls : List Lab} (h : chkL ls = true) : ∀ x ∈ ls, (61 : UInt8) ∉ x.1 := by
  simp only [chkL, Bool.and_eq_true] at h
  have key : ∀ (l : List Lab) (last : Bytes), chkFrom last l = true → ∀ x ∈ l, nameB x.1 = true := by
    intro l
    induction l with
    | nil => intro _ _ x hx; cases hx
    | cons y r ih =>
      intro last h x hx
      simp only [chkFrom, Bool.and_eq_true] at h
      rcases List.mem_cons.1 hx with e | e
      · rw [e]; exact h.1.1.1.1
      · exact ih _ h.2 x e
  exact fun x hx => name_no61 (key ls [] h.2 x hx)
theorem print_apart {a b : List Lab} (ha : chkL a = true) (hb : chkL b = true) : (printL (bodyL a) true == printL (bodyL b) true) = (a == b) := by
  have : printL (bodyL a) true = printL (bodyL b) true ↔ a = b := by
    refine ⟨fun h => ?_, fun h => by rw [h]⟩
    simp only [printL, if_true, List.append_assoc, List.cons_append, List.nil_append, List.cons.injEq, true_and] at h
    exact body_inj (chk_names ha) (chk_names hb) (List.append_cancel_right h)
  by_cases e : a = b
  · rw [e]; simp
  · have e' : printL (bodyL a) true ≠ printL (bodyL b) true := fun h => e (this.1 h)
    rw [beq_eq_false_iff_ne.2 e', beq_eq_false_iff_ne.2 e]
theorem text_cut {n m r s : Bytes} (hn : n.length < 128) (hm : m.length < 128) (h : UInt8.ofNat n.length :: (n ++ r) = UInt8.ofNat m.length :: (m ++ s)) : n = m ∧ r = s := by
  simp only [List.cons.injEq] at h
  have e : n.length = m.length := by
    have := congrArg UInt8.toNat h.1
    simp at this; omega
  exact List.append_inj h.2 e
theorem key_inj : ∀ {a b : List Lab}, (∀ x ∈ a, x.1.length ≤ 16 ∧ x.2.length ≤ 32) → (∀ x ∈ b, x.1.length ≤ 16 ∧ x.2.length ≤ 32) → keyL a = keyL b → a = b
  | [], [], _, _, _ => rfl
  | [], y :: b, _, _, h => by simp [keyL, keyPart] at h
  | x :: a, [], _, _, h => by simp [keyL, keyPart] at h
  | x :: a, y :: b, ha, hb, h => by
    have h1 := ha x (List.mem_cons_self ..)
    have h2 := hb y (List.mem_cons_self ..)
    simp only [keyL, List.flatMap_cons, keyPart, List.append_assoc, List.cons_append] at h
    obtain ⟨e1, e2⟩ := text_cut (by omega) (by omega) h
    obtain ⟨e3, e4⟩ := text_cut (by omega) (by omega) e2
    rw [Prod.ext e1 e3, key_inj (fun z hz => ha z (List.mem_cons_of_mem _ hz)) (fun z hz => hb z (List.mem_cons_of_mem _ hz)) e4]
theorem key_apart {a b : List Lab} (ha : chkL a = true) (hb : chkL b = true) : (printK (keyL a) true == printK (keyL b) true) = (a == b) := by
  have : printK (keyL a) true = printK (keyL b) true ↔ a = b := by
    refine ⟨fun h => ?_, fun h => by rw [h]⟩
    rw [printK, printK, if_pos rfl, if_pos rfl] at h
    exact key_inj (chk_lens ha).2 (chk_lens hb).2 h
  by_cases e : a = b
  · rw [e]; simp
  · have e' : printK (keyL a) true ≠ printK (keyL b) true := fun h => e (this.1 h)
    rw [beq_eq_false_iff_ne.2 e', beq_eq_false_iff_ne.2 e]

end Go.Proofs.Ytamdkmcdleilpaa
