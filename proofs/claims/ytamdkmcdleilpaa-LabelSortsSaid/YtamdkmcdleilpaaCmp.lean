/-
  The comparison of labels by their names.
-/
import Derived.Test.YtamdkmcdleilpaaRotate
namespace Go.Proofs.Ytamdkmcdleilpaa
open Go.RowKit

def bl (a b : Bytes) : Bool := Op.bytesLess a b
theorem bl_nil_right (a : Bytes) : bl a [] = false := by cases a <;> rfl
theorem bl_nil_cons (y : UInt8) (b : Bytes) : bl [] (y :: b) = true := rfl
theorem bl_cons (x y : UInt8) (a b : Bytes) : bl (x :: a) (y :: b) = (decide (x < y) || (x == y) && bl a b) := by
  simp only [bl, Op.bytesLess]
theorem bl_weak : Weak bl := by
  constructor
  · intro x
    induction x with
    | nil => intro y h; cases y with
      | nil => rfl
      | cons y b => rfl
    | cons x a ih =>
      intro y h
      cases y with
      | nil => rw [bl_nil_right] at h; cases h
      | cons y b =>
        rw [bl_cons] at h ⊢
        simp only [Bool.or_eq_true, decide_eq_true_eq, Bool.and_eq_true, beq_iff_eq] at h
        simp only [Bool.or_eq_false_iff, decide_eq_false_iff_not, Bool.and_eq_false_iff, beq_eq_false_iff_ne]
        rcases h with h | ⟨rfl, h⟩
        · exact ⟨UInt8.lt_asymm h, .inl (fun e => by rw [e] at h; exact UInt8.lt_irrefl _ h)⟩
        · exact ⟨UInt8.lt_irrefl _, .inr (ih b h)⟩
  · intro x
    induction x with
    | nil =>
      intro y z h1 h2
      cases y with
      | nil => exact h2
      | cons y b => rw [bl_nil_cons] at h1; cases h1
    | cons x a ih =>
      intro y z h1 h2
      cases z with
      | nil => rw [bl_nil_right]
      | cons z c =>
        cases y with
        | nil => rw [bl_nil_cons] at h2; cases h2
        | cons y b =>
          rw [bl_cons] at h1 h2 ⊢
          simp only [Bool.or_eq_false_iff, decide_eq_false_iff_not, Bool.and_eq_false_iff, beq_eq_false_iff_ne] at h1 h2 ⊢
          obtain ⟨p1, p2⟩ := h1
          obtain ⟨q1, q2⟩ := h2
          have hyx : y ≤ x := UInt8.not_lt.1 p1
          have hzy : z ≤ y := UInt8.not_lt.1 q1
          refine ⟨UInt8.not_lt.2 (UInt8.le_trans hzy hyx), ?_⟩
          by_cases e : x = z
          · subst e
            have exy : x = y := UInt8.le_antisymm hzy hyx
            subst exy
            rcases p2 with p2 | p2
            · exact absurd rfl p2
            · rcases q2 with q2 | q2
              · exact absurd rfl q2
              · exact .inr (ih b c p2 q2)
          · exact .inl e

/-- Which label comes first. -/
def ltE (x y : El) : Bool := bl x.1 y.1
theorem ltE_weak : Weak ltE := ⟨fun x y h => bl_weak.asym _ _ h, fun x y z h1 h2 => bl_weak.neg _ _ _ h1 h2⟩
def cmpE (x y : El) : Int := if ltE x y then -1 else if ltE y x then 1 else 0
theorem cmpE_lt {x y : El} (h : ltE x y = true) : cmpE x y = -1 := by unfold cmpE; rw [if_pos h]
theorem cmpE_ge {x y : El} (h : ltE x y = false) : 0 ≤ cmpE x y := by unfold cmpE; rw [if_neg (by rw [h]; exact Bool.false_ne_true)]; split <;> omega
theorem cmpE_bd (x y : El) : -1 ≤ cmpE x y ∧ cmpE x y ≤ 1 := by unfold cmpE; split; omega; split <;> omega

set_option maxRecDepth 100000 in
theorem isNaN_any (a : Bytes) (w : World) :
    Calls Try.prog 80 #[.string (bs a)] w fun e w' => e = .returned (.bool false) ∧ w = w' := by
  have e1 : (a != a) = false := by simp
  go_enter Try.func80, Try.ntmps80
  go_wp2_with fail
  go_ret
  exact ⟨rfl, rfl⟩
set_option maxRecDepth 100000 in
theorem compare_any (a b : Bytes) (w : World) :
    Calls Try.prog 62 #[.string (bs a), .string (bs b)] w fun e w' => e = .returned (.int .i64 (if bl a b then -1 else if bl b a then 1 else 0)) ∧ w = w' := by
  have HA := bl_weak.asym a b
  cases h1 : bl a b with
  | true =>
    have g1 : Op.bytesLess a b = true := h1
    clear HA h1
    go_enter Try.func62, Try.ntmps62
    go_wp2_with fail
    refine (isNaN_any a _).mono ?_
    rintro e w' ⟨rfl, rfl⟩
    go_wp2_with fail
    refine (isNaN_any b _).mono ?_
    rintro e w' ⟨rfl, rfl⟩
    go_wp2_with fail
    go_ret
    exact ⟨rfl, rfl⟩
  | false =>
    have g1 : Op.bytesLess a b = false := h1
    cases h2 : bl b a with
    | true =>
      have g2 : Op.bytesLess b a = true := h2
      have g3 : (a == b) = false := by
        rw [beq_eq_false_iff_ne]; intro e; rw [e] at h2; have := bl_weak.irr b; rw [h2] at this; cases this
      clear HA h1 h2
      go_enter Try.func62, Try.ntmps62
      go_wp2_with fail
      refine (isNaN_any a _).mono ?_
      rintro e w' ⟨rfl, rfl⟩
      go_wp2_with fail
      refine (isNaN_any b _).mono ?_
      rintro e w' ⟨rfl, rfl⟩
      go_wp2_with fail
      go_ret
      exact ⟨rfl, rfl⟩
    | false =>
      have g2 : Op.bytesLess b a = false := h2
      have g3 : (a == b) = true := by
        have key : ∀ a b : Bytes, bl a b = false → bl b a = false → a = b := by
          intro a
          induction a with
          | nil => intro b h1 _; cases b with
            | nil => rfl
            | cons y b => rw [bl_nil_cons] at h1; cases h1
          | cons x a ih =>
            intro b h1 h2
            cases b with
            | nil => rw [bl_nil_cons] at h2; cases h2
            | cons y b =>
              rw [bl_cons] at h1 h2
              simp only [Bool.or_eq_false_iff, decide_eq_false_iff_not, Bool.and_eq_false_iff, beq_eq_false_iff_ne] at h1 h2
              have e : x = y := UInt8.le_antisymm (UInt8.not_lt.1 h2.1) (UInt8.not_lt.1 h1.1)
              subst e
              rcases h1.2 with p | p
              · exact absurd rfl p
              · rcases h2.2 with q | q
                · exact absurd rfl q
                · rw [ih b p q]
        rw [key a b h1 h2]; simp
      clear HA h1 h2
      go_enter Try.func62, Try.ntmps62
      go_wp2_with fail
      refine (isNaN_any a _).mono ?_
      rintro e w' ⟨rfl, rfl⟩
      go_wp2_with fail
      refine (isNaN_any b _).mono ?_
      rintro e w' ⟨rfl, rfl⟩
      go_wp2_with fail
      go_ret
      exact ⟨rfl, rfl⟩
def cmpV : Value := .func (.func 61) #[] #[]
set_option maxRecDepth 100000 in
theorem cmp_any (x y : El) (w : World) :
    Calls Try.prog 61 #[.agg #[cA x, cB x], .agg #[cA y, cB y]] w fun e w' => e = .returned (.int .i64 (cmpE x y)) ∧ Below w.heap.size w w' := by
  obtain ⟨x1, x2⟩ := x
  obtain ⟨y1, y2⟩ := y
  simp only [cA, cB]
  have HC := Lib.hid (fun w => compare_any x1 y1 w)
  have HE := Lib.hid (show cmpE (x1, x2) (y1, y2) = (if bl x1 y1 then -1 else if bl y1 x1 then 1 else 0) from rfl)
  rw [HE.out]
  generalize (if bl x1 y1 then (-1 : Int) else if bl y1 x1 then 1 else 0) = c at *
  clear HE
  go_enter Try.func61, Try.ntmps61
  go_wp2_with fail
  refine (HC.out _).mono ?_
  rintro e w' ⟨rfl, rfl⟩
  go_wp2_with fail
  go_ret
  exact ⟨rfl, ((Below.refl _ _).alloc (Nat.le_refl _) _).alloc (by simp) _⟩

end Go.Proofs.Ytamdkmcdleilpaa
