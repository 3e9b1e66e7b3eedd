/-
  Plain: what the parser of labels reads is what Print writes.
-/
import Derived.Test.YtamdkmcdleilpaaParser
import Derived.Test.YtamdkmcdleilpaaInj
namespace Go.Proofs.Ytamdkmcdleilpaa
open Go.RowKit

theorem valF_esc : ∀ (a : Bytes) (t r : Bytes), valF (escL a ++ 34 :: r) false t = some (t ++ a, r)
  | [], t, r => by simp [escL, valF]
  | c :: a, t, r => by
    have he : escL (c :: a) = escB c ++ escL a := rfl
    rw [he, List.append_assoc]
    by_cases c10 : c = 10
    · have e : escB c = [92, 110] := by unfold escB; rw [if_pos c10]
      rw [e]
      simp only [List.cons_append, List.nil_append, valF]
      rw [if_pos trivial, if_pos trivial, valF_esc a, c10]; simp
    · by_cases c2 : c = 34 ∨ c = 92
      · have e : escB c = [92, c] := by unfold escB; rw [if_neg c10, if_pos c2]
        rw [e]
        simp only [List.cons_append, List.nil_append, valF]
        rw [if_pos trivial, if_neg (by rcases c2 with rfl | rfl <;> decide), if_pos c2, valF_esc a]; simp
      · have e : escB c = [c] := by unfold escB; rw [if_neg c10, if_neg c2]
        rw [e]
        simp only [List.cons_append, List.nil_append, valF]
        rw [if_neg (fun h => c2 (.inr h)), if_neg (fun h => c2 (.inl h)), if_neg c10, valF_esc a]; simp
theorem valF_sound : ∀ (s : Bytes) (back : Bool) (t v r : Bytes), valF s back t = some (v, r) →
    (back = false → ∃ a, v = t ++ a ∧ s = escL a ++ 34 :: r) ∧ (back = true → ∃ c a, v = t ++ c :: a ∧ 92 :: s = escB c ++ (escL a ++ 34 :: r))
  | [], back, t, v, r, h => by cases back <;> simp [valF] at h
  | c :: s, true, t, v, r, h => by
    refine ⟨fun h => (by cases h), fun _ => ?_⟩
    rw [valF] at h
    by_cases c1 : c = 110
    · rw [if_pos c1] at h
      obtain ⟨a, h1, h2⟩ := (valF_sound s false _ v r h).1 rfl
      exact ⟨10, a, by rw [h1]; simp, by rw [h2, c1]; rfl⟩
    · rw [if_neg c1] at h
      by_cases c2 : c = 34 ∨ c = 92
      · rw [if_pos c2] at h
        obtain ⟨a, h1, h2⟩ := (valF_sound s false _ v r h).1 rfl
        refine ⟨c, a, by rw [h1]; simp, ?_⟩
        have e : escB c = [92, c] := by unfold escB; rw [if_neg (by rcases c2 with rfl | rfl <;> decide), if_pos c2]
        rw [h2, e]; rfl
      · rw [if_neg c2] at h; cases h
  | c :: s, false, t, v, r, h => by
    refine ⟨fun _ => ?_, fun h => (by cases h)⟩
    rw [valF] at h
    by_cases c1 : c = 92
    · rw [if_pos c1] at h
      obtain ⟨c', a, h1, h2⟩ := (valF_sound s true _ v r h).2 rfl
      exact ⟨c' :: a, h1, by rw [c1, h2]; simp [escL]⟩
    · rw [if_neg c1] at h
      by_cases c2 : c = 34
      · rw [if_pos c2] at h
        injection h with h; injection h with h1 h2
        exact ⟨[], by rw [h1]; simp, by rw [h2, c2]; rfl⟩
      · rw [if_neg c2] at h
        by_cases c3 : c = 10
        · rw [if_pos c3] at h; cases h
        · rw [if_neg c3] at h
          obtain ⟨a, h1, h2⟩ := (valF_sound s false _ v r h).1 rfl
          refine ⟨c :: a, by rw [h1]; simp, ?_⟩
          have e : escB c = [c] := by unfold escB; rw [if_neg c3, if_neg (fun h => h.elim c2 c1)]
          rw [h2]; simp [escL, e]
theorem valP_quote (a r : Bytes) : valP (quoteL a ++ r) = some (a, r) := by
  have e : quoteL a ++ r = 34 :: (escL a ++ 34 :: r) := by simp [quoteL]
  unfold valP
  rw [e, if_pos (by simp [isPre])]
  show valF (escL a ++ 34 :: r) false [] = _
  rw [valF_esc]; rfl
theorem isPre_cons {c : UInt8} {s : Bytes} (h : isPre [c] s = true) : ∃ r, s = c :: r := by
  cases s with
  | nil => simp [isPre] at h
  | cons x r => refine ⟨r, ?_⟩; simp [isPre] at h; rw [h]
theorem valP_sound {s v r : Bytes} (h : valP s = some (v, r)) : s = quoteL v ++ r := by
  unfold valP at h
  by_cases hp : isPre [34] s = true
  · rw [if_pos hp] at h
    obtain ⟨s', rfl⟩ := isPre_cons hp
    obtain ⟨a, h1, h2⟩ := (valF_sound _ _ _ _ _ h).1 rfl
    simp only [List.drop_succ_cons, List.drop_zero, List.nil_append] at h1 h2
    rw [h2, h1]; simp [quoteL]
  · rw [if_neg hp] at h; cases h

/-- What a parser of s may say: the labels of which s is the text, or that there are none. -/
def ParsedAs (s : Bytes) : Option (List Lab) → Prop
  | none => ∀ ls, chkL ls = true → printL (bodyL ls) true ≠ s
  | some ls => chkL ls = true ∧ printL (bodyL ls) true = s
theorem ParsedAs.uniq {s : Bytes} {o p : Option (List Lab)} (ho : ParsedAs s o) (hp : ParsedAs s p) : o = p := by
  match o, p, ho, hp with
  | none, none, _, _ => rfl
  | none, some ls, h, ⟨h1, h2⟩ => exact absurd h2 (h ls h1)
  | some ls, none, ⟨h1, h2⟩, h => exact absurd h2 (h ls h1)
  | some a, some b, ⟨h1, h2⟩, ⟨h3, h4⟩ =>
    have := print_apart h1 h3
    rw [h2, h4] at this
    simp at this
    rw [this]
theorem printT (ls : List Lab) : printL (bodyL ls) true = 123 :: (bodyL ls ++ [125]) := by simp [printL]

/-- What stands ahead of the next label. -/
def preL (acc : List Lab) : Bytes := if acc = [] then [] else bodyL acc ++ [44]
theorem body_more (acc : List Lab) (x : Lab) (tl : List Lab) : bodyL (acc ++ x :: tl) = preL acc ++ bodyL (x :: tl) := by
  unfold preL bodyL
  cases acc with
  | nil => simp
  | cons y r => simp [joinB]
theorem body_end (acc : List Lab) (x : Lab) : bodyL (acc ++ [x]) = preL acc ++ partOf x := by
  rw [body_more]; simp [bodyL, joinB]
theorem body_cons (x : Lab) (tl : List Lab) : bodyL (x :: tl) = partOf x ++ (tl.map partOf).flatMap fun y => [44] ++ y := rfl

/-- Where the parser of s stands: acc is read, rest is left; more: another label has to come. -/
def PI (s : Bytes) (acc : List Lab) (rest : Bytes) (more : Bool) : Prop :=
  if more then s = 123 :: (preL acc ++ rest) ∧ ∀ ls, chkL ls = true → printL (bodyL ls) true = s → ∃ x tl, ls = acc ++ x :: tl
  else s = 123 :: (bodyL acc ++ rest) ∧ ∀ ls, chkL ls = true → printL (bodyL ls) true = s → ls = acc
theorem PI.start {s rest : Bytes} (h : s = 123 :: rest) (hr : rest ≠ [125]) : PI s [] rest true := by
  refine ⟨by rw [h]; rfl, fun ls _ hp => ?_⟩
  cases ls with
  | nil =>
    rw [printT, h] at hp
    exact absurd (List.cons.inj hp).2.symm hr
  | cons x tl => exact ⟨x, tl, rfl⟩
theorem PI.next {s n v rest : Bytes} {acc : List Lab} (h : PI s acc (n ++ 61 :: (quoteL v ++ rest)) true) (hn : (61 : UInt8) ∉ n) :
    PI s (acc ++ [(n, v)]) (leftB [44] rest) (isPre [44] rest) := by
  obtain ⟨h1, h2⟩ := h
  have hb : bodyL (acc ++ [(n, v)]) = preL acc ++ (n ++ 61 :: quoteL v) := body_end acc (n, v)
  have key : ∀ ls, chkL ls = true → printL (bodyL ls) true = s → ∃ tl, ls = acc ++ (n, v) :: tl ∧ rest = ((tl.map partOf).flatMap fun y => [44] ++ y) ++ [125] := by
    intro ls hc hp
    obtain ⟨x, tl, e⟩ := h2 ls hc hp
    have hx := chk_names hc x (by rw [e]; simp)
    rw [printT, h1, e, body_more, body_cons] at hp
    have hp2 := (List.cons.inj hp).2
    rw [List.append_assoc, List.append_assoc] at hp2
    have hp3 := List.append_cancel_left hp2
    have hp4 : partOf x ++ (((tl.map partOf).flatMap fun y => [44] ++ y) ++ [125]) = partOf (n, v) ++ rest := by rw [hp3]; simp [partOf]
    obtain ⟨e1, e2⟩ := part_cut hx hn hp4
    exact ⟨tl, by rw [e, e1], e2.symm⟩
  cases hq : isPre [44] rest with
  | true =>
    obtain ⟨r, rfl⟩ := isPre_cons hq
    have hl : leftB [44] (44 :: r) = r := by unfold leftB; rw [hq]; rfl
    rw [hl]
    refine ⟨?_, fun ls hc hp => ?_⟩
    · have hpre : preL (acc ++ [(n, v)]) = bodyL (acc ++ [(n, v)]) ++ [44] := if_neg (by simp)
      rw [h1, hpre, hb]; simp
    · obtain ⟨tl, e, hr⟩ := key ls hc hp
      cases tl with
      | nil => simp at hr
      | cons y tl => exact ⟨y, tl, by rw [e]; simp⟩
  | false =>
    have hl : leftB [44] rest = rest := by unfold leftB; rw [hq]; rfl
    rw [hl]
    refine ⟨?_, fun ls hc hp => ?_⟩
    · rw [h1, hb]; simp
    · obtain ⟨tl, e, hr⟩ := key ls hc hp
      cases tl with
      | nil => rw [e]
      | cons y tl => rw [hr] at hq; simp [isPre] at hq
theorem PI.none1 {s rest : Bytes} {acc : List Lab} (h : PI s acc rest true) (hn : (61 : UInt8) ∉ rest) : ParsedAs s none := by
  obtain ⟨h1, h2⟩ := h
  intro ls hc hp
  obtain ⟨x, tl, e⟩ := h2 ls hc hp
  rw [printT, h1, e, body_more, body_cons] at hp
  have hp2 := (List.cons.inj hp).2
  rw [List.append_assoc, List.append_assoc] at hp2
  have hp3 := List.append_cancel_left hp2
  exact hn (by rw [← hp3]; simp [partOf])
theorem PI.none2 {s n r : Bytes} {acc : List Lab} (h : PI s acc (n ++ 61 :: r) true) (hn : (61 : UInt8) ∉ n) (hv : valP r = none) : ParsedAs s none := by
  obtain ⟨h1, h2⟩ := h
  intro ls hc hp
  obtain ⟨x, tl, e⟩ := h2 ls hc hp
  have hx := chk_names hc x (by rw [e]; simp)
  rw [printT, h1, e, body_more, body_cons] at hp
  have hp2 := (List.cons.inj hp).2
  rw [List.append_assoc, List.append_assoc] at hp2
  have hp3 := List.append_cancel_left hp2
  unfold partOf at hp3
  rw [List.append_assoc, List.cons_append] at hp3
  obtain ⟨e1, e2⟩ := cut61 hx hn hp3
  rw [← e2, valP_quote] at hv
  cases hv
theorem PI.yes {s : Bytes} {acc : List Lab} (h : PI s acc [125] false) (hc : chkL acc = true) : ParsedAs s (some acc) :=
  ⟨hc, by rw [printT, h.1]⟩
theorem PI.no1 {s rest : Bytes} {acc : List Lab} (h : PI s acc rest false) (hr : rest ≠ [125]) : ParsedAs s none := by
  intro ls hc hp
  have e := h.2 ls hc hp
  rw [printT, h.1, e] at hp
  exact hr (List.append_cancel_left (List.cons.inj hp).2).symm
theorem PI.no2 {s rest : Bytes} {acc : List Lab} (h : PI s acc rest false) (hc : chkL acc = false) : ParsedAs s none := by
  intro ls hc' hp
  have e := h.2 ls hc' hp
  rw [e, hc] at hc'; cases hc'
theorem parsed_open {s : Bytes} (h : isPre [123] s = false) : ParsedAs s none := by
  intro ls hc hp
  rw [printT] at hp
  rw [← hp] at h
  simp [isPre] at h
theorem parsed_empty {s : Bytes} (h : s = [123, 125]) : ParsedAs s (some []) := ⟨by decide, by rw [h]; rfl⟩

end Go.Proofs.Ytamdkmcdleilpaa
