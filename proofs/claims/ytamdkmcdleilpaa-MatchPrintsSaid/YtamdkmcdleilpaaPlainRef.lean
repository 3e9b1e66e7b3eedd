/-
  Plain: what the document's Parse of labels reads.
-/
import Derived.Test.YtamdkmcdleilpaaPlainParse
namespace Go.Proofs.Ytamdkmcdleilpaa
open Go.RowKit

theorem qdF_bound : ∀ (n : Nat) (s : Bytes) (i : Nat) (t : Bytes), t.length + 1 ≤ i →
    (qdF n s i t).2 ≤ s.length ∧ (qdF n s i t).1.length ≤ (qdF n s i t).2
  | 0, _, _, _, _ => by simp [qdF]
  | n + 1, s, i, t, h => by
    simp only [qdF]
    by_cases h1 : i < s.length
    · rw [if_pos h1]
      by_cases h2 : byteAt s i = 34
      · rw [if_pos h2]; exact ⟨by simp; omega, by simp; omega⟩
      · rw [if_neg h2]
        by_cases h3 : byteAt s i = 92
        · rw [if_pos h3]
          by_cases h4 : i + 1 < s.length
          · rw [if_pos h4]; exact qdF_bound n s (i + 2) _ (by simp; omega)
          · rw [if_neg h4]; simp
        · rw [if_neg h3]; exact qdF_bound n s (i + 1) _ (by simp; omega)
    · rw [if_neg h1]; simp
theorem qd_bound (s : Bytes) : (qd s).2 ≤ s.length ∧ (qd s).1.length ≤ (qd s).2 := by
  unfold qd
  split
  · exact qdF_bound _ _ _ _ (by simp)
  · simp

theorem drop_at {s : Bytes} {k : Nat} (h : k < s.length) : s.drop k = byteAt s k :: s.drop (k + 1) := drop_byte h
/-- From place 'at_' on no sign of equality stands ahead of place k. -/
def NoEq (s : Bytes) (at_ k : Nat) : Prop := (61 : UInt8) ∉ (s.drop at_).take (k - at_)
theorem NoEq.start (s : Bytes) (at_ : Nat) : NoEq s at_ at_ := by unfold NoEq; simp
theorem NoEq.succ {s : Bytes} {at_ k : Nat} (h : NoEq s at_ k) (hk : k < s.length) (ha : at_ ≤ k) (hc : byteAt s k ≠ 61) : NoEq s at_ (k + 1) := by
  unfold NoEq at *
  have e : (s.drop at_).take (k + 1 - at_) = (s.drop at_).take (k - at_) ++ [byteAt s k] := by
    rw [show k + 1 - at_ = (k - at_) + 1 by omega, take_byte (by simp; omega)]
    congr 2
    simp [byteAt, List.getD, List.getElem?_drop, show at_ + (k - at_) = k by omega]
  rw [e]
  intro hm
  rcases List.mem_append.1 hm with hm | hm
  · exact h hm
  · simp at hm; exact hc hm.symm
theorem NoEq.all {s : Bytes} {at_ k : Nat} (h : NoEq s at_ k) (hk : s.length ≤ k) : (61 : UInt8) ∉ s.drop at_ := by
  unfold NoEq at h
  rwa [List.take_of_length_le (by simp; omega)] at h
theorem split_k {s : Bytes} {at_ k : Nat} (hk : k < s.length) (ha : at_ ≤ k) (hc : byteAt s k = 61) : s.drop at_ = (s.drop at_).take (k - at_) ++ 61 :: s.drop (k + 1) := by
  have h1 := (List.take_append_drop (k - at_) (s.drop at_)).symm
  rw [List.drop_drop, show at_ + (k - at_) = k by omega, drop_byte hk, hc] at h1
  exact h1

/-- Where the document's reader of s stands. -/
def RI (s : Bytes) (acc : List Lab) (at_ : Nat) : Prop :=
  ∀ ls, chkL ls = true → printL (bodyL ls) true = s → (at_ < s.length → ∃ x tl, ls = acc ++ x :: tl ∧ s.drop at_ = bodyL (x :: tl) ++ [125]) ∧ (¬ at_ < s.length → ls = acc)
theorem RI.start {s : Bytes} (h : s ≠ [123, 125]) : RI s [] 1 := by
  intro ls _ hp
  rw [printT] at hp
  cases ls with
  | nil => exact absurd hp.symm h
  | cons x tl =>
    refine ⟨fun _ => ⟨x, tl, rfl, by rw [← hp]; rfl⟩, fun hn => ?_⟩
    rw [← hp] at hn
    simp at hn
theorem RI.none1 {s : Bytes} {acc : List Lab} {at_ : Nat} (h : RI s acc at_) (hl : at_ < s.length) (hn : (61 : UInt8) ∉ s.drop at_) : ParsedAs s none := by
  intro ls hc hp
  obtain ⟨x, tl, _, e⟩ := (h ls hc hp).1 hl
  exact hn (by rw [e, body_cons]; simp [partOf])
theorem RI.key {s : Bytes} {acc : List Lab} {at_ k : Nat} (h : RI s acc at_) (hk : k < s.length) (ha : at_ ≤ k) (hc : byteAt s k = 61) (hn : NoEq s at_ k) :
    ∀ ls, chkL ls = true → printL (bodyL ls) true = s → ∃ x tl, ls = acc ++ x :: tl ∧ x.1 = (s.drop at_).take (k - at_) ∧ s.drop (k + 1) = quoteL x.2 ++ (((tl.map partOf).flatMap fun y => [44] ++ y) ++ [125]) := by
  intro ls hcl hp
  obtain ⟨x, tl, e1, e2⟩ := (h ls hcl hp).1 (by omega)
  have hx := chk_names hcl x (by rw [e1]; simp)
  rw [split_k hk ha hc, body_cons] at e2
  generalize hF : ((tl.map partOf).flatMap fun y => [44] ++ y) = F at *
  rw [List.append_assoc, show partOf x = x.1 ++ 61 :: quoteL x.2 from rfl, List.append_assoc, List.cons_append] at e2
  obtain ⟨g1, g2⟩ := cut61 hn hx e2
  exact ⟨x, tl, e1, g1.symm, by rw [g2, hF]⟩
theorem RI.none2 {s : Bytes} {acc : List Lab} {at_ k : Nat} (h : RI s acc at_) (hk : k < s.length) (ha : at_ ≤ k) (hc : byteAt s k = 61) (hn : NoEq s at_ k) (hq : (qd (s.drop (k + 1))).2 = 0) : ParsedAs s none := by
  intro ls hcl hp
  obtain ⟨x, tl, e1, e2, e3⟩ := h.key hk ha hc hn ls hcl hp
  rw [e3, qd_quote] at hq
  have := (quoteL_len x.2).1
  have hq' : (quoteL x.2).length = 0 := hq
  omega
theorem RI.next {s : Bytes} {acc : List Lab} {at_ k : Nat} (h : RI s acc at_) (hk : k < s.length) (ha : at_ ≤ k) (hc : byteAt s k = 61) (hn : NoEq s at_ k) :
    RI s (acc ++ [((s.drop at_).take (k - at_), (qd (s.drop (k + 1))).1)]) (k + 1 + (qd (s.drop (k + 1))).2 + 1) := by
  intro ls hcl hp
  obtain ⟨x, tl, e1, e2, e3⟩ := h.key hk ha hc hn ls hcl hp
  have e4 := e3
  rw [e3, qd_quote]
  have ex : ((s.drop at_).take (k - at_), x.2) = x := by rw [← e2]
  simp only [ex]
  have e5 : s.drop (k + 1 + (quoteL x.2).length) = ((tl.map partOf).flatMap fun y => [44] ++ y) ++ [125] := by
    rw [← List.drop_drop, e4]; simp
  have e6 : s.drop (k + 1 + (quoteL x.2).length + 1) = (((tl.map partOf).flatMap fun y => [44] ++ y) ++ [125]).drop 1 := by
    rw [← List.drop_drop, e5]
  have hlen := congrArg List.length e6
  simp only [List.length_drop] at hlen
  cases tl with
  | nil =>
    simp at hlen
    exact ⟨fun hlt => by omega, fun _ => e1⟩
  | cons y tl =>
    have e7 : (((y :: tl).map partOf).flatMap fun y => [44] ++ y) ++ [125] = 44 :: (bodyL (y :: tl) ++ [125]) := by rw [body_cons]; simp
    rw [e7] at e6 hlen
    simp at hlen
    refine ⟨fun _ => ⟨y, tl, by rw [e1]; simp, by rw [e6]; rfl⟩, fun hn => ?_⟩
    omega
theorem RI.yes {s : Bytes} {acc : List Lab} (hc : chkL acc = true) (hp : printL (bodyL acc) true = s) : ParsedAs s (some acc) := ⟨hc, hp⟩
theorem RI.no1 {s : Bytes} {acc : List Lab} {at_ : Nat} (h : RI s acc at_) (hl : ¬ at_ < s.length) (hc : chkL acc = false) : ParsedAs s none := by
  intro ls hcl hp
  have := (h ls hcl hp).2 hl
  rw [this, hc] at hcl; cases hcl
theorem RI.no2 {s : Bytes} {acc : List Lab} {at_ : Nat} (h : RI s acc at_) (hl : ¬ at_ < s.length) (hc : printL (bodyL acc) true ≠ s) : ParsedAs s none := by
  intro ls hcl hp
  have := (h ls hcl hp).2 hl
  rw [this] at hp; exact hc hp
theorem wt_snoc (acc : List Lab) (x : Lab) : wt (acc ++ [x]) = wt acc + x.1.length + x.2.length := by simp [wt]; omega

end Go.Proofs.Ytamdkmcdleilpaa
