/-
  Plain: how wide a text's runes are; which texts are values.
-/
import Derived.Test.YtamdkmcdleilpaaPlainUtf
namespace Go.Proofs.Ytamdkmcdleilpaa

/-- utf8.RuneLen, of a rune that is not negative. -/
def runeLen (r : Nat) : Int := if r ≤ 127 then 1 else if r ≤ 2047 then 2 else if 55296 ≤ r ∧ r ≤ 57343 then -1 else if r ≤ 65535 then 3 else if r ≤ 1114111 then 4 else -1

def isC (l : Bytes) (k : Nat) : Bool := decide (128 ≤ (byteAt l k).toNat) && decide ((byteAt l k).toNat < 192)
/-- The number that the first k bytes of a rune come to, the first one's mark taken away. -/
def accum (base : Int) (l : Bytes) : Nat → Int
  | 0 => 0
  | 1 => ((byteAt l 0).toNat : Int) - base
  | k + 2 => accum base l (k + 1) * 64 + (byteAt l (k + 1)).toNat - 128
/-- The reference's 'wide'. -/
def refW (l : Bytes) : Nat :=
  let c := (byteAt l 0).toNat
  if c < 128 then 1
  else if 192 ≤ c ∧ c < 224 then (if 2 ≤ l.length ∧ isC l 1 = true ∧ 128 ≤ accum 192 l 2 then 2 else 0)
  else if 224 ≤ c ∧ c < 240 then (if 3 ≤ l.length ∧ isC l 1 = true ∧ isC l 2 = true ∧ 2048 ≤ accum 224 l 3 ∧ ¬ (55296 ≤ accum 224 l 3 ∧ accum 224 l 3 < 57344) then 3 else 0)
  else if 240 ≤ c ∧ c < 248 then (if 4 ≤ l.length ∧ isC l 1 = true ∧ isC l 2 = true ∧ isC l 3 = true ∧ 65536 ≤ accum 240 l 4 ∧ accum 240 l 4 ≤ 1114111 then 4 else 0)
  else 0

theorem dec_len {l : Bytes} (h : l ≠ []) : (dec l).2 ≤ l.length ∧ 1 ≤ (dec l).2 := by
  have hl : 0 < l.length := List.length_pos_iff.2 h
  unfold dec; simp only []
  repeat' split
  all_goals simp_all [cont]
  all_goals omega
theorem dec_wide (l : Bytes) : ((dec l).2 : Int) ≤ runeLen (dec l).1 ∧ runeLen (dec l).1 ≤ 4 := by
  have h0 := (byteAt l 0).toNat_lt
  have h1 := (byteAt l 1).toNat_lt
  have h2 := (byteAt l 2).toNat_lt
  have h3 := (byteAt l 3).toNat_lt
  unfold dec; simp only []
  repeat' split
  all_goals simp_all [Utf8.valid, runeLen]
  all_goals (try omega)
  all_goals (repeat' split)
  all_goals omega
theorem cont_iff (l : Bytes) (k : Nat) : cont l k = true ↔ k < l.length ∧ isC l k = true := by
  have h := (byteAt l k).toNat_lt
  unfold cont isC
  simp only [Bool.and_eq_true, decide_eq_true_eq, beq_iff_eq]
  omega
theorem cont_bd {l : Bytes} {k : Nat} (h : cont l k = true) : 128 ≤ (byteAt l k).toNat ∧ (byteAt l k).toNat < 192 := by
  have h' := ((cont_iff l k).1 h).2
  unfold isC at h'
  simpa using h'
theorem valid_nat (c : Nat) : Utf8.valid c = true ↔ (c < 55296 ∨ (57344 ≤ c ∧ c ≤ 1114111)) := by
  unfold Utf8.valid
  simp only [Bool.or_eq_true, Bool.and_eq_true, decide_eq_true_eq]
  omega
theorem ite_bad (n : Nat) (hn : (if runeLen 65533 = (1 : Nat) then 1 else 0) = n) : n = 0 := by
  subst hn; decide
theorem runeLen_1 {c : Nat} (h : c < 128) : runeLen c = 1 := by unfold runeLen; rw [if_pos (by omega)]
theorem runeLen_2 {c : Nat} (h : 128 ≤ c) (h2 : c < 2048) : runeLen c = 2 := by unfold runeLen; rw [if_neg (by omega), if_pos (by omega)]
theorem runeLen_3 {c : Nat} (h : 2048 ≤ c) (h2 : c < 65536) (hs : ¬ (55296 ≤ c ∧ c ≤ 57343)) : runeLen c = 3 := by
  unfold runeLen; rw [if_neg (by omega), if_neg (by omega), if_neg hs, if_pos (by omega)]
theorem runeLen_4 {c : Nat} (h : 65536 ≤ c) (h2 : c ≤ 1114111) : runeLen c = 4 := by
  unfold runeLen; rw [if_neg (by omega), if_neg (by omega), if_neg (by omega), if_neg (by omega), if_pos (by omega)]
theorem runeLen_bad : runeLen 65533 = 3 := by decide

def Wd (p : Nat × Nat) : Nat := if runeLen p.1 = p.2 then p.2 else 0
theorem Wd_bad : Wd (65533, 1) = 0 := by decide
theorem Wd_ok {c n : Nat} (h : runeLen c = n) : Wd (c, n) = n := by unfold Wd; rw [if_pos h]

theorem refW_A {l : Bytes} (h : (byteAt l 0).toNat < 128) : refW l = Wd (dec l) := by
  rw [dec_low h, Wd_ok (by rw [runeLen_1 h]; rfl)]
  unfold refW; simp only []; rw [if_pos h]
theorem refW_B {l : Bytes} (h1 : 192 ≤ (byteAt l 0).toNat) (h2 : (byteAt l 0).toNat < 224) : refW l = Wd (dec l) := by
  have hR : refW l = if 2 ≤ l.length ∧ isC l 1 = true ∧ 128 ≤ accum 192 l 2 then 2 else 0 := by
    unfold refW; simp only []
    rw [if_neg (show ¬ (byteAt l 0).toNat < 128 by omega), if_pos ⟨h1, h2⟩]
  have hD : dec l = if cont l 1 = true then (if ((byteAt l 0).toNat % 32) * 64 + (byteAt l 1).toNat % 64 ≥ 128 then (((byteAt l 0).toNat % 32) * 64 + (byteAt l 1).toNat % 64, 2) else (65533, 1)) else (65533, 1) := by
    unfold dec; simp only []
    have e1 : ((byteAt l 0).toNat / 32 == 6) = true := by rw [beq_iff_eq]; omega
    have e2 : ((byteAt l 0).toNat / 16 == 14) = false := by rw [beq_eq_false_iff_ne]; omega
    have e3 : ((byteAt l 0).toNat / 8 == 30) = false := by rw [beq_eq_false_iff_ne]; omega
    rw [if_neg (show ¬ (byteAt l 0).toNat < 128 by omega), e1, e2, e3]
    simp only [Bool.true_and, Bool.false_and, Bool.false_eq_true, if_false]
  rw [hR, hD]
  by_cases hc : cont l 1 = true
  · rw [if_pos hc]
    obtain ⟨g1, g2⟩ := (cont_iff l 1).1 hc
    obtain ⟨b1, b2⟩ := cont_bd hc
    have ha : accum 192 l 2 = ((((byteAt l 0).toNat % 32) * 64 + (byteAt l 1).toNat % 64 : Nat) : Int) := by
      show (((byteAt l 0).toNat : Int) - 192) * 64 + (byteAt l 1).toNat - 128 = _
      omega
    by_cases hv : ((byteAt l 0).toNat % 32) * 64 + (byteAt l 1).toNat % 64 ≥ 128
    · rw [if_pos hv, if_pos ⟨by omega, g2, by omega⟩, Wd_ok (runeLen_2 hv (by omega))]
    · rw [if_neg hv, if_neg (fun h => hv (by have := h.2.2; omega)), Wd_bad]
  · rw [if_neg hc, if_neg (fun h => hc ((cont_iff l 1).2 ⟨by omega, h.2.1⟩)), Wd_bad]
theorem refW_C {l : Bytes} (h1 : 224 ≤ (byteAt l 0).toNat) (h2 : (byteAt l 0).toNat < 240) : refW l = Wd (dec l) := by
  have hR : refW l = if 3 ≤ l.length ∧ isC l 1 = true ∧ isC l 2 = true ∧ 2048 ≤ accum 224 l 3 ∧ ¬ (55296 ≤ accum 224 l 3 ∧ accum 224 l 3 < 57344) then 3 else 0 := by
    unfold refW; simp only []
    rw [if_neg (show ¬ (byteAt l 0).toNat < 128 by omega), if_neg (show ¬ (192 ≤ (byteAt l 0).toNat ∧ (byteAt l 0).toNat < 224) by omega), if_pos ⟨h1, h2⟩]
  have hD : dec l = if (cont l 1 && cont l 2) = true then (if (decide (((byteAt l 0).toNat % 16) * 4096 + ((byteAt l 1).toNat % 64) * 64 + (byteAt l 2).toNat % 64 ≥ 2048) && Utf8.valid ((((byteAt l 0).toNat % 16) * 4096 + ((byteAt l 1).toNat % 64) * 64 + (byteAt l 2).toNat % 64 : Nat) : Int)) = true then (((byteAt l 0).toNat % 16) * 4096 + ((byteAt l 1).toNat % 64) * 64 + (byteAt l 2).toNat % 64, 3) else (65533, 1)) else (65533, 1) := by
    unfold dec; simp only []
    have e1 : ((byteAt l 0).toNat / 32 == 6) = false := by rw [beq_eq_false_iff_ne]; omega
    have e2 : ((byteAt l 0).toNat / 16 == 14) = true := by rw [beq_iff_eq]; omega
    have e3 : ((byteAt l 0).toNat / 8 == 30) = false := by rw [beq_eq_false_iff_ne]; omega
    rw [if_neg (show ¬ (byteAt l 0).toNat < 128 by omega), e1, e2, e3]
    simp only [Bool.true_and, Bool.false_and, Bool.false_eq_true, if_false]
  rw [hR, hD]
  by_cases hc : (cont l 1 && cont l 2) = true
  · rw [if_pos hc]
    obtain ⟨hc1, hc2⟩ := (Bool.and_eq_true _ _).mp hc
    obtain ⟨g1, g2⟩ := (cont_iff l 1).1 hc1
    obtain ⟨g3, g4⟩ := (cont_iff l 2).1 hc2
    obtain ⟨b1, b2⟩ := cont_bd hc1
    obtain ⟨b3, b4⟩ := cont_bd hc2
    have ha : accum 224 l 3 = ((((byteAt l 0).toNat % 16) * 4096 + ((byteAt l 1).toNat % 64) * 64 + (byteAt l 2).toNat % 64 : Nat) : Int) := by
      show ((((byteAt l 0).toNat : Int) - 224) * 64 + (byteAt l 1).toNat - 128) * 64 + (byteAt l 2).toNat - 128 = _
      omega
    generalize hcv : ((byteAt l 0).toNat % 16) * 4096 + ((byteAt l 1).toNat % 64) * 64 + (byteAt l 2).toNat % 64 = c at *
    by_cases hv : (decide (c ≥ 2048) && Utf8.valid c) = true
    · rw [if_pos hv]
      obtain ⟨v1, v2⟩ := (Bool.and_eq_true _ _).mp hv
      have v1' : c ≥ 2048 := of_decide_eq_true v1
      have v2' := (valid_nat c).1 v2
      have hb : c < 65536 := by omega
      rw [if_pos ⟨by omega, g2, g4, by omega, by omega⟩, Wd_ok (runeLen_3 v1' hb (by omega))]
    · rw [if_neg hv, if_neg (fun h => hv (by
        rw [Bool.and_eq_true]
        have k1 := h.2.2.2.1
        have k2 := h.2.2.2.2
        exact ⟨decide_eq_true (by omega), (valid_nat c).2 (by omega)⟩)), Wd_bad]
  · rw [if_neg hc, if_neg (fun h => hc (by
      rw [Bool.and_eq_true]
      exact ⟨(cont_iff l 1).2 ⟨by omega, h.2.1⟩, (cont_iff l 2).2 ⟨by omega, h.2.2.1⟩⟩)), Wd_bad]
theorem refW_D {l : Bytes} (h1 : 240 ≤ (byteAt l 0).toNat) (h2 : (byteAt l 0).toNat < 248) : refW l = Wd (dec l) := by
  have hR : refW l = if 4 ≤ l.length ∧ isC l 1 = true ∧ isC l 2 = true ∧ isC l 3 = true ∧ 65536 ≤ accum 240 l 4 ∧ accum 240 l 4 ≤ 1114111 then 4 else 0 := by
    unfold refW; simp only []
    rw [if_neg (show ¬ (byteAt l 0).toNat < 128 by omega), if_neg (show ¬ (192 ≤ (byteAt l 0).toNat ∧ (byteAt l 0).toNat < 224) by omega), if_neg (show ¬ (224 ≤ (byteAt l 0).toNat ∧ (byteAt l 0).toNat < 240) by omega), if_pos ⟨h1, h2⟩]
  have hD : dec l = if (cont l 1 && cont l 2 && cont l 3) = true then (if (decide (((byteAt l 0).toNat % 8) * 262144 + ((byteAt l 1).toNat % 64) * 4096 + ((byteAt l 2).toNat % 64) * 64 + (byteAt l 3).toNat % 64 ≥ 65536) && Utf8.valid ((((byteAt l 0).toNat % 8) * 262144 + ((byteAt l 1).toNat % 64) * 4096 + ((byteAt l 2).toNat % 64) * 64 + (byteAt l 3).toNat % 64 : Nat) : Int)) = true then (((byteAt l 0).toNat % 8) * 262144 + ((byteAt l 1).toNat % 64) * 4096 + ((byteAt l 2).toNat % 64) * 64 + (byteAt l 3).toNat % 64, 4) else (65533, 1)) else (65533, 1) := by
    unfold dec; simp only []
    have e1 : ((byteAt l 0).toNat / 32 == 6) = false := by rw [beq_eq_false_iff_ne]; omega
    have e2 : ((byteAt l 0).toNat / 16 == 14) = false := by rw [beq_eq_false_iff_ne]; omega
    have e3 : ((byteAt l 0).toNat / 8 == 30) = true := by rw [beq_iff_eq]; omega
    rw [if_neg (show ¬ (byteAt l 0).toNat < 128 by omega), e1, e2, e3]
    simp only [Bool.true_and, Bool.false_and, Bool.false_eq_true, if_false]
  rw [hR, hD]
  by_cases hc : (cont l 1 && cont l 2 && cont l 3) = true
  · rw [if_pos hc]
    obtain ⟨hc12, hc3⟩ := (Bool.and_eq_true _ _).mp hc
    obtain ⟨hc1, hc2⟩ := (Bool.and_eq_true _ _).mp hc12
    obtain ⟨g1, g2⟩ := (cont_iff l 1).1 hc1
    obtain ⟨g3, g4⟩ := (cont_iff l 2).1 hc2
    obtain ⟨g5, g6⟩ := (cont_iff l 3).1 hc3
    obtain ⟨b1, b2⟩ := cont_bd hc1
    obtain ⟨b3, b4⟩ := cont_bd hc2
    obtain ⟨b5, b6⟩ := cont_bd hc3
    have ha : accum 240 l 4 = ((((byteAt l 0).toNat % 8) * 262144 + ((byteAt l 1).toNat % 64) * 4096 + ((byteAt l 2).toNat % 64) * 64 + (byteAt l 3).toNat % 64 : Nat) : Int) := by
      show (((((byteAt l 0).toNat : Int) - 240) * 64 + (byteAt l 1).toNat - 128) * 64 + (byteAt l 2).toNat - 128) * 64 + (byteAt l 3).toNat - 128 = _
      omega
    generalize hcv : ((byteAt l 0).toNat % 8) * 262144 + ((byteAt l 1).toNat % 64) * 4096 + ((byteAt l 2).toNat % 64) * 64 + (byteAt l 3).toNat % 64 = c at *
    by_cases hv : (decide (c ≥ 65536) && Utf8.valid c) = true
    · rw [if_pos hv]
      obtain ⟨v1, v2⟩ := (Bool.and_eq_true _ _).mp hv
      have v1' : c ≥ 65536 := of_decide_eq_true v1
      have v2' := (valid_nat c).1 v2
      rw [if_pos ⟨by omega, g2, g4, g6, by omega, by omega⟩, Wd_ok (runeLen_4 v1' (by omega))]
    · rw [if_neg hv, if_neg (fun h => hv (by
        rw [Bool.and_eq_true]
        have k1 := h.2.2.2.2.1
        have k2 := h.2.2.2.2.2
        exact ⟨decide_eq_true (by omega), (valid_nat c).2 (by omega)⟩)), Wd_bad]
  · rw [if_neg hc, if_neg (fun h => hc (by
      rw [Bool.and_eq_true, Bool.and_eq_true]
      exact ⟨⟨(cont_iff l 1).2 ⟨by omega, h.2.1⟩, (cont_iff l 2).2 ⟨by omega, h.2.2.1⟩⟩, (cont_iff l 3).2 ⟨by omega, h.2.2.2.1⟩⟩)), Wd_bad]
theorem refW_E {l : Bytes} (h0 : ¬ (byteAt l 0).toNat < 128) (h : (byteAt l 0).toNat < 192 ∨ 248 ≤ (byteAt l 0).toNat) : refW l = Wd (dec l) := by
  have hb := (byteAt l 0).toNat_lt
  have hR : refW l = 0 := by
    unfold refW; simp only []
    rw [if_neg (show ¬ (byteAt l 0).toNat < 128 by omega), if_neg (show ¬ (192 ≤ (byteAt l 0).toNat ∧ (byteAt l 0).toNat < 224) by omega), if_neg (show ¬ (224 ≤ (byteAt l 0).toNat ∧ (byteAt l 0).toNat < 240) by omega), if_neg (show ¬ (240 ≤ (byteAt l 0).toNat ∧ (byteAt l 0).toNat < 248) by omega)]
  have hD : dec l = (65533, 1) := by
    unfold dec; simp only []
    have e1 : ((byteAt l 0).toNat / 32 == 6) = false := by rw [beq_eq_false_iff_ne]; omega
    have e2 : ((byteAt l 0).toNat / 16 == 14) = false := by rw [beq_eq_false_iff_ne]; omega
    have e3 : ((byteAt l 0).toNat / 8 == 30) = false := by rw [beq_eq_false_iff_ne]; omega
    rw [if_neg (show ¬ (byteAt l 0).toNat < 128 by omega), e1, e2, e3]
    simp only [Bool.false_and, Bool.false_eq_true, if_false]
  rw [hR, hD, Wd_bad]
theorem refW_dec (l : Bytes) : refW l = Wd (dec l) := by
  by_cases a : (byteAt l 0).toNat < 128
  · exact refW_A a
  · by_cases b : (byteAt l 0).toNat < 192 ∨ 248 ≤ (byteAt l 0).toNat
    · exact refW_E a b
    · by_cases c : (byteAt l 0).toNat < 224
      · exact refW_B (by omega) c
      · by_cases d : (byteAt l 0).toNat < 240
        · exact refW_C (by omega) d
        · exact refW_D (by omega) (by omega)

/-- How wide the runes of l are, together. -/
def wideN : Nat → Bytes → Int
  | 0, _ => 0
  | n + 1, l => if l = [] then 0 else runeLen (dec l).1 + wideN n (l.drop (dec l).2)
/-- All of l is runes. -/
def valN : Nat → Bytes → Bool
  | 0, _ => true
  | n + 1, l => if l = [] then true else if Wd (dec l) = 0 then false else valN n (l.drop (Wd (dec l)))
def valueB (l : Bytes) : Bool := decide (l.length ≤ 32) && valN l.length l

theorem wideN_more : ∀ (n m : Nat) (l : Bytes), l.length ≤ n → l.length ≤ m → wideN n l = wideN m l := by
  intro n
  induction n with
  | zero =>
    intro m l h _
    have : l = [] := List.eq_nil_of_length_eq_zero (by omega)
    subst this
    cases m <;> simp [wideN]
  | succ n ih =>
    intro m l h h'
    by_cases e : l = []
    · subst e; cases m <;> simp [wideN]
    · have hl := List.length_pos_iff.2 e
      obtain ⟨d1, d2⟩ := dec_len e
      cases m with
      | zero => omega
      | succ m =>
        simp only [wideN]
        rw [if_neg e, if_neg e, ih m (l.drop (dec l).2) (by rw [List.length_drop]; omega) (by rw [List.length_drop]; omega)]
theorem valN_more : ∀ (n m : Nat) (l : Bytes), l.length ≤ n → l.length ≤ m → valN n l = valN m l := by
  intro n
  induction n with
  | zero =>
    intro m l h _
    have : l = [] := List.eq_nil_of_length_eq_zero (by omega)
    subst this
    cases m <;> simp [valN]
  | succ n ih =>
    intro m l h h'
    by_cases e : l = []
    · subst e; cases m <;> simp [valN]
    · have hl := List.length_pos_iff.2 e
      cases m with
      | zero => omega
      | succ m =>
        simp only [valN]
        rw [if_neg e, if_neg e]
        by_cases hw : Wd (dec l) = 0
        · rw [if_pos hw, if_pos hw]
        · rw [if_neg hw, if_neg hw, ih m _ (by rw [List.length_drop]; omega) (by rw [List.length_drop]; omega)]
theorem wide_ge : ∀ (n : Nat) (l : Bytes), l.length ≤ n → (l.length : Int) ≤ wideN n l ∧ wideN n l ≤ 4 * l.length ∧ (wideN n l = l.length ↔ valN n l = true) := by
  intro n
  induction n with
  | zero =>
    intro l h
    have : l = [] := List.eq_nil_of_length_eq_zero (by omega)
    subst this
    simp [wideN, valN]
  | succ n ih =>
    intro l h
    by_cases e : l = []
    · subst e; simp [wideN, valN]
    · have hl := List.length_pos_iff.2 e
      obtain ⟨d1, d2⟩ := dec_len e
      obtain ⟨w1, w2⟩ := dec_wide l
      simp only [wideN, valN]
      rw [if_neg e, if_neg e]
      obtain ⟨i1, i2, i3⟩ := ih (l.drop (dec l).2) (by rw [List.length_drop]; omega)
      rw [List.length_drop] at i1 i2 i3
      by_cases hw : runeLen (dec l).1 = (dec l).2
      · have ew : Wd (dec l) = (dec l).2 := by unfold Wd; rw [if_pos hw]
        rw [ew, if_neg (by omega)]
        refine ⟨by omega, by omega, ?_⟩
        rw [← i3]
        constructor <;> intro h <;> omega
      · have ew : Wd (dec l) = 0 := by unfold Wd; rw [if_neg hw]
        rw [if_pos ew]
        refine ⟨by omega, by omega, ?_⟩
        constructor
        · intro h; omega
        · intro h; cases h
theorem wide_step {l : Bytes} {k : Nat} (h : k < l.length) : wideN l.length (l.drop k) = runeLen (dec (l.drop k)).1 + wideN l.length (l.drop (k + (dec (l.drop k)).2)) := by
  have e : l.drop k ≠ [] := by intro h'; have := congrArg List.length h'; rw [List.length_drop] at this; simp at this; omega
  obtain ⟨d1, d2⟩ := dec_len e
  rw [List.length_drop] at d1
  have hl : 0 < l.length := by omega
  obtain ⟨m, hm⟩ : ∃ m, l.length = m + 1 := ⟨l.length - 1, by omega⟩
  rw [hm]
  show (if l.drop k = [] then 0 else _) = _
  rw [if_neg e, List.drop_drop]
  congr 1
  exact wideN_more _ _ _ (by rw [List.length_drop]; omega) (by rw [List.length_drop]; omega)
theorem value_is {l : Bytes} (h : l.length ≤ 32) : valueB l = decide (wideN l.length l = l.length) := by
  unfold valueB
  rw [decide_eq_true h, Bool.true_and]
  have := (wide_ge l.length l (Nat.le_refl _)).2.2
  cases hv : valN l.length l with
  | true => exact (decide_eq_true (this.2 hv)).symm
  | false => exact (decide_eq_false (fun e => by rw [this.1 e] at hv; cases hv)).symm
theorem value_no {l : Bytes} (h : 32 < l.length) : valueB l = false := by
  unfold valueB; rw [decide_eq_false (show ¬ l.length ≤ 32 by omega)]; rfl

/-! ### the reference's 'wide', by the rune's length -/
def okA (n : Nat) (a : Int) : Prop := (n = 2 ∧ 128 ≤ a) ∨ (n = 3 ∧ 2048 ≤ a ∧ ¬ (55296 ≤ a ∧ a < 57344)) ∨ (n = 4 ∧ 65536 ≤ a ∧ a ≤ 1114111)
def Lead (l : Bytes) (n : Nat) (base : Int) : Prop :=
  (n = 2 ∧ base = 192 ∧ 192 ≤ (byteAt l 0).toNat ∧ (byteAt l 0).toNat < 224) ∨ (n = 3 ∧ base = 224 ∧ 224 ≤ (byteAt l 0).toNat ∧ (byteAt l 0).toNat < 240) ∨
  (n = 4 ∧ base = 240 ∧ 240 ≤ (byteAt l 0).toNat ∧ (byteAt l 0).toNat < 248)
theorem refW_lead {l : Bytes} {n : Nat} {base : Int} (h : Lead l n base) :
    (n ≤ l.length → (∀ i, 1 ≤ i → i < n → isC l i = true) → okA n (accum base l n) → refW l = n) ∧ (l.length < n → refW l = 0) ∧
    (∀ k, 1 ≤ k → k < n → isC l k = false → refW l = 0) ∧ (¬ okA n (accum base l n) → refW l = 0) := by
  rcases h with ⟨rfl, rfl, h1, h2⟩ | ⟨rfl, rfl, h1, h2⟩ | ⟨rfl, rfl, h1, h2⟩
  · have hR : refW l = if 2 ≤ l.length ∧ isC l 1 = true ∧ 128 ≤ accum 192 l 2 then 2 else 0 := by
      unfold refW; simp only []
      rw [if_neg (show ¬ (byteAt l 0).toNat < 128 by omega), if_pos ⟨h1, h2⟩]
    rw [hR]
    refine ⟨fun a b c => ?_, fun a => if_neg (fun h => by omega), fun k a b c => if_neg (fun h => ?_), fun c => if_neg (fun h => c (.inl ⟨rfl, h.2.2⟩))⟩
    · rcases c with ⟨_, c⟩ | ⟨c, _⟩ | ⟨c, _⟩
      · exact if_pos ⟨a, b 1 (by omega) (by omega), c⟩
      · omega
      · omega
    · obtain rfl : k = 1 := by omega
      rw [h.2.1] at c; cases c
  · have hR : refW l = if 3 ≤ l.length ∧ isC l 1 = true ∧ isC l 2 = true ∧ 2048 ≤ accum 224 l 3 ∧ ¬ (55296 ≤ accum 224 l 3 ∧ accum 224 l 3 < 57344) then 3 else 0 := by
      unfold refW; simp only []
      rw [if_neg (show ¬ (byteAt l 0).toNat < 128 by omega), if_neg (show ¬ (192 ≤ (byteAt l 0).toNat ∧ (byteAt l 0).toNat < 224) by omega), if_pos ⟨h1, h2⟩]
    rw [hR]
    refine ⟨fun a b c => ?_, fun a => if_neg (fun h => by omega), fun k a b c => if_neg (fun h => ?_), fun c => if_neg (fun h => c (.inr (.inl ⟨rfl, h.2.2.2⟩)))⟩
    · rcases c with ⟨c, _⟩ | ⟨_, c⟩ | ⟨c, _⟩
      · omega
      · exact if_pos ⟨a, b 1 (by omega) (by omega), b 2 (by omega) (by omega), c⟩
      · omega
    · rcases (by omega : k = 1 ∨ k = 2) with rfl | rfl
      · rw [h.2.1] at c; cases c
      · rw [h.2.2.1] at c; cases c
  · have hR : refW l = if 4 ≤ l.length ∧ isC l 1 = true ∧ isC l 2 = true ∧ isC l 3 = true ∧ 65536 ≤ accum 240 l 4 ∧ accum 240 l 4 ≤ 1114111 then 4 else 0 := by
      unfold refW; simp only []
      rw [if_neg (show ¬ (byteAt l 0).toNat < 128 by omega), if_neg (show ¬ (192 ≤ (byteAt l 0).toNat ∧ (byteAt l 0).toNat < 224) by omega), if_neg (show ¬ (224 ≤ (byteAt l 0).toNat ∧ (byteAt l 0).toNat < 240) by omega), if_pos ⟨h1, h2⟩]
    rw [hR]
    refine ⟨fun a b c => ?_, fun a => if_neg (fun h => by omega), fun k a b c => if_neg (fun h => ?_), fun c => if_neg (fun h => c (.inr (.inr ⟨rfl, h.2.2.2.2⟩)))⟩
    · rcases c with ⟨c, _⟩ | ⟨c, _⟩ | ⟨_, c⟩
      · omega
      · omega
      · exact if_pos ⟨a, b 1 (by omega) (by omega), b 2 (by omega) (by omega), b 3 (by omega) (by omega), c⟩
    · rcases (by omega : k = 1 ∨ k = 2 ∨ k = 3) with rfl | rfl | rfl
      · rw [h.2.1] at c; cases c
      · rw [h.2.2.1] at c; cases c
      · rw [h.2.2.2.1] at c; cases c
theorem refW_one {l : Bytes} (h : (byteAt l 0).toNat < 128) : refW l = 1 := by unfold refW; simp only []; rw [if_pos h]
theorem refW_none {l : Bytes} (h0 : ¬ (byteAt l 0).toNat < 128) (h : (byteAt l 0).toNat < 192 ∨ 248 ≤ (byteAt l 0).toNat) : refW l = 0 := by
  unfold refW; simp only []
  rw [if_neg (show ¬ (byteAt l 0).toNat < 128 by omega), if_neg (show ¬ (192 ≤ (byteAt l 0).toNat ∧ (byteAt l 0).toNat < 224) by omega), if_neg (show ¬ (224 ≤ (byteAt l 0).toNat ∧ (byteAt l 0).toNat < 240) by omega), if_neg (show ¬ (240 ≤ (byteAt l 0).toNat ∧ (byteAt l 0).toNat < 248) by omega)]
theorem accum_succ {l : Bytes} {base : Int} {k : Nat} (h : 1 ≤ k) : accum base l (k + 1) = accum base l k * 64 + (byteAt l k).toNat - 128 := by
  obtain ⟨m, rfl⟩ : ∃ m, k = m + 1 := ⟨k - 1, by omega⟩
  rfl
theorem accum_bd {l : Bytes} {base : Int} {n : Nat} (h : Lead l n base) : ∀ k, 1 ≤ k → (∀ i, 1 ≤ i → i < k → isC l i = true) → 0 ≤ accum base l k ∧ accum base l k < 32 * 64 ^ (k - 1) := by
  intro k
  induction k with
  | zero => intro h; omega
  | succ k ih =>
    intro _ hc
    by_cases e : k = 0
    · subst e
      show 0 ≤ ((byteAt l 0).toNat : Int) - base ∧ ((byteAt l 0).toNat : Int) - base < 32 * 64 ^ 0
      rcases h with ⟨_, rfl, h1, h2⟩ | ⟨_, rfl, h1, h2⟩ | ⟨_, rfl, h1, h2⟩ <;> constructor <;> omega
    · obtain ⟨i1, i2⟩ := ih (by omega) (fun i a b => hc i a (by omega))
      have hi := hc k (by omega) (by omega)
      unfold isC at hi
      simp only [Bool.and_eq_true, decide_eq_true_eq] at hi
      rw [accum_succ (by omega)]
      obtain ⟨m, rfl⟩ : ∃ m, k = m + 1 := ⟨k - 1, by omega⟩
      simp only [Nat.add_sub_cancel] at i2 ⊢
      rw [Int.pow_succ]
      generalize (64 : Int) ^ m = p at *
      constructor <;> omega

end Go.Proofs.Ytamdkmcdleilpaa
