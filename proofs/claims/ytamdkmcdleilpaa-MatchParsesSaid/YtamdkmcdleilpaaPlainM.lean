/-
  Plain: the text of matchers, and what a parser of it may say.
-/
import Derived.Test.YtamdkmcdleilpaaPlainRef
import Derived.Test.YtamdkmcdleilpaaHeavy
import Derived.Test.YtamdkmcdleilpaaMChk
namespace Go.Proofs.Ytamdkmcdleilpaa
open Go.RowKit

def preK (k : Int) : Bytes := if k = 0 then [] else if k = 1 then [33] else if k = 2 then [94] else [64]
def valsOf (m : Mat) : List Bytes := if m.k < 3 then [m.x] else m.ss
def quotesL (l : List Bytes) : Bytes := joinB [124] (l.map quoteL)
def partM (m : Mat) : Bytes := (m.n ++ preK m.k) ++ 61 :: quotesL (valsOf m)
def okMat (m : Mat) : Bool := okM m.k m.n m.x m.ss
def chkM (ms : List Mat) : Bool := decide (ms.length ≤ 8) && ms.all okMat
def bodyM (ms : List Mat) : Bytes := joinB [44] (ms.map partM)
def printP (J : Bytes) (b : Bool) : Bytes := if b then [91] ++ J ++ [93] else []

def ParsedM (s : Bytes) : Option (List Mat) → Prop
  | none => ∀ ms, chkM ms = true → printP (bodyM ms) true ≠ s
  | some ms => chkM ms = true ∧ printP (bodyM ms) true = s

/-- What stands quoted ahead of a text, and the rest. -/
def mq (s : Bytes) : Option (Bytes × Bytes) := if (qd s).2 = 0 then none else some ((qd s).1, s.drop (qd s).2)
theorem mq_quote (a b : Bytes) : mq (quoteL a ++ b) = some (a, b) := by
  unfold mq
  rw [qd_quote]
  have := (quoteL_len a).1
  rw [if_neg (by show ¬ (quoteL a).length = 0; omega)]
  simp
theorem qdF_bound2 : ∀ (n : Nat) (s : Bytes) (i : Nat) (t : Bytes), t.length + 1 ≤ i → (qdF n s i t).2 ≠ 0 → (qdF n s i t).1.length + 2 ≤ (qdF n s i t).2
  | 0, _, _, _, _, h => by simp [qdF] at h
  | n + 1, s, i, t, h, h0 => by
    simp only [qdF] at h0 ⊢
    by_cases h1 : i < s.length
    · rw [if_pos h1] at h0 ⊢
      by_cases h2 : byteAt s i = 34
      · rw [if_pos h2] at h0 ⊢; simp; omega
      · rw [if_neg h2] at h0 ⊢
        by_cases h3 : byteAt s i = 92
        · rw [if_pos h3] at h0 ⊢
          by_cases h4 : i + 1 < s.length
          · rw [if_pos h4] at h0 ⊢; exact qdF_bound2 n s (i + 2) _ (by simp; omega) h0
          · rw [if_neg h4] at h0; simp at h0
        · rw [if_neg h3] at h0 ⊢; exact qdF_bound2 n s (i + 1) _ (by simp; omega) h0
    · rw [if_neg h1] at h0; simp at h0
theorem mq_len {s v r : Bytes} (h : mq s = some (v, r)) : v.length + r.length + 2 ≤ s.length := by
  unfold mq at h
  split at h
  · cases h
  · rename_i h0
    have h1 := (qd_bound s).1
    have h2 : (qd s).1.length + 2 ≤ (qd s).2 := by
      unfold qd at h0 ⊢
      split
      · rename_i hc
        rw [if_pos hc] at h0
        exact qdF_bound2 _ _ _ _ (by simp) h0
      · rename_i hc
        rw [if_neg hc] at h0; simp at h0
    simp only [Option.some.injEq, Prod.mk.injEq] at h
    obtain ⟨e1, e2⟩ := h
    rw [← e1, ← e2]
    simp; omega

/-- More quoted texts, each behind a bar. -/
def barsF : Nat → Bytes → List Bytes → Option (List Bytes × Bytes)
  | 0, _, _ => none
  | n + 1, r, acc => if isPre [124] r then (match mq (r.drop 1) with | none => none | some (v, r') => barsF n r' (acc ++ [v])) else some (acc, r)
theorem barsF_end {n : Nat} {r : Bytes} {acc : List Bytes} (hn : r.length < n) (h : isPre [124] r = false) : barsF n r acc = some (acc, r) := by
  obtain ⟨m, rfl⟩ : ∃ m, n = m + 1 := ⟨n - 1, by omega⟩
  simp [barsF, h]
theorem barsF_none {n : Nat} {r : Bytes} {acc : List Bytes} (h : isPre [124] r = true) (hv : mq (r.drop 1) = none) : barsF n r acc = none := by
  cases n with
  | zero => rfl
  | succ n => simp only [barsF]; rw [if_pos h, hv]
theorem barsF_next {n : Nat} {r v r' : Bytes} {acc : List Bytes} (hn : r.length < n) (h : isPre [124] r = true) (hv : mq (r.drop 1) = some (v, r')) :
    ∃ m, r'.length < m ∧ barsF n r acc = barsF m r' (acc ++ [v]) := by
  obtain ⟨m, rfl⟩ : ∃ m, n = m + 1 := ⟨n - 1, by omega⟩
  have h1 := mq_len hv
  have h2 : (r.drop 1).length ≤ r.length := by simp
  exact ⟨m, by omega, by simp only [barsF]; rw [if_pos h, hv]⟩
theorem barsF_len : ∀ (n : Nat) (r : Bytes) (acc ss : List Bytes) (r' : Bytes), barsF n r acc = some (ss, r') → ss.length + sl ss + r'.length ≤ acc.length + sl acc + r.length ∧ acc.length ≤ ss.length
  | 0, _, _, _, _, h => by simp [barsF] at h
  | n + 1, r, acc, ss, r', h => by
    simp only [barsF] at h
    split at h
    · split at h
      · cases h
      · rename_i v r1 hv
        have h1 := barsF_len n r1 _ ss r' h
        have h2 := mq_len hv
        have h3 : (r.drop 1).length ≤ r.length := by simp
        have h4 : sl (acc ++ [v]) = sl acc + v.length := by simp [sl]
        rw [h4] at h1
        simp at h1; omega
    · simp only [Option.some.injEq, Prod.mk.injEq] at h
      rw [← h.1, ← h.2]; omega
theorem barsF_bars : ∀ (l : List Bytes) (n : Nat) (acc : List Bytes) (b : Bytes), isPre [124] b = false → (((l.map quoteL).flatMap fun y => [124] ++ y) ++ b).length < n → barsF n (((l.map quoteL).flatMap fun y => [124] ++ y) ++ b) acc = some (acc ++ l, b)
  | [], n, acc, b, hb, hn => by simp at hn ⊢; exact barsF_end hn hb
  | x :: l, n, acc, b, hb, hn => by
    have e : (((x :: l).map quoteL).flatMap fun y => [124] ++ y) ++ b = 124 :: (quoteL x ++ (((l.map quoteL).flatMap fun y => [124] ++ y) ++ b)) := by simp
    rw [e] at hn ⊢
    obtain ⟨m, hm, h⟩ := barsF_next (acc := acc) hn (by simp [isPre]) (mq_quote x (((l.map quoteL).flatMap fun y => [124] ++ y) ++ b))
    rw [h, barsF_bars l m _ b hb hm]; simp

/-- The kind and the name of what stands ahead of the sign of equality. -/
def headM (nm : Bytes) : Int × Bytes :=
  if nm.getLast? = some 33 then (1, nm.dropLast) else if nm.getLast? = some 94 then (2, nm.dropLast) else if nm.getLast? = some 64 then (3, nm.dropLast) else (0, nm)
/-- One matcher: nm stands ahead of the sign of equality, r behind it. -/
def par1 (nm r : Bytes) : Option (Mat × Bytes) :=
  match mq r with
  | none => none
  | some (v, r1) => if (headM nm).1 < 3 then some (⟨(headM nm).1, (headM nm).2, v, []⟩, r1) else
    match barsF (r1.length + 1) r1 [v] with
    | none => none
    | some (ss, r2) => some (⟨3, (headM nm).2, [], ss⟩, r2)

theorem headM_kind (nm : Bytes) : (headM nm).1 = 0 ∨ (headM nm).1 = 1 ∨ (headM nm).1 = 2 ∨ (headM nm).1 = 3 := by
  unfold headM
  split
  · simp
  · split
    · simp
    · split <;> simp
theorem headM_len (nm : Bytes) : (headM nm).2.length ≤ nm.length := by
  unfold headM
  split
  · simp
  · split
    · simp
    · split <;> simp
theorem par1_len {nm r r' : Bytes} {m : Mat} (h : par1 nm r = some (m, r')) : m.n.length + m.x.length + m.ss.length + sl m.ss + 1 + r'.length ≤ nm.length + r.length := by
  unfold par1 at h
  have h0 := headM_len nm
  split at h
  · cases h
  · rename_i v r1 hv
    have h1 := mq_len hv
    split at h
    · simp only [Option.some.injEq, Prod.mk.injEq] at h
      rw [← h.1, ← h.2]
      simp [sl]; omega
    · split at h
      · cases h
      · rename_i ss r2 hb
        have h2 := (barsF_len _ _ _ _ _ hb).1
        simp only [Option.some.injEq, Prod.mk.injEq] at h
        rw [← h.1, ← h.2]
        have h3 : sl [v] = v.length := by simp [sl]
        rw [h3] at h2
        simp at h2 ⊢; omega

theorem name_last {n : Bytes} (h : nameB n = true) (c : UInt8) (hc : c = 33 ∨ c = 94 ∨ c = 64) : n.getLast? ≠ some c := by
  intro e
  have hm : c ∈ n := List.mem_of_getLast? e
  simp only [nameB, Bool.and_eq_true, List.all_eq_true] at h
  have := h.2 c hm
  rcases hc with rfl | rfl | rfl <;> exact absurd this (by decide)
theorem ok_kind {m : Mat} (h : okMat m = true) : m.k = 0 ∨ m.k = 1 ∨ m.k = 2 ∨ m.k = 3 := by
  by_cases hb : m.k < 0 ∨ 3 < m.k
  · unfold okMat at h; rw [okM_bad hb] at h; cases h
  · omega
theorem ok_name {m : Mat} (h : okMat m = true) : nameB m.n = true := by
  rcases ok_kind h with e | e | e | e
  · unfold okMat at h; rw [okM_lo (by omega), Bool.and_eq_true] at h; exact h.1
  · unfold okMat at h; rw [okM_lo (by omega), Bool.and_eq_true] at h; exact h.1
  · unfold okMat at h; rw [okM_lo (by omega), Bool.and_eq_true] at h; exact h.1
  · unfold okMat at h; rw [e, okM_3, Bool.and_eq_true] at h; exact h.1
theorem headM_ok {m : Mat} (h : okMat m = true) : headM (m.n ++ preK m.k) = (m.k, m.n) := by
  have hn := ok_name h
  have h1 := name_last hn 33 (by simp)
  have h2 := name_last hn 94 (by simp)
  have h3 := name_last hn 64 (by simp)
  rcases ok_kind h with e | e | e | e
  · rw [e]; simp [preK, headM, h1, h2, h3]
  · rw [e]; simp [preK, headM]
  · rw [e]; simp [preK, headM]
  · rw [e]; simp [preK, headM]
theorem head_no61 {m : Mat} (h : okMat m = true) : (61 : UInt8) ∉ m.n ++ preK m.k := by
  have hn := name_no61 (ok_name h)
  intro hm
  rcases List.mem_append.1 hm with hm | hm
  · exact hn hm
  · rcases ok_kind h with e | e | e | e <;> rw [e] at hm <;> simp [preK] at hm
theorem par1_ok {m : Mat} (h : okMat m = true) {b : Bytes} (hb : isPre [124] b = false) : par1 (m.n ++ preK m.k) (quotesL (valsOf m) ++ b) = some (m, b) := by
  obtain ⟨k, n, x, ss⟩ := m
  have hh := headM_ok h
  simp only at hh
  unfold par1
  simp only [hh]
  rcases ok_kind h with e | e | e | e
  all_goals (simp only at e; subst e)
  · have hs : ss = [] := by
      have h' : okM 0 n x ss = true := h
      rw [okM_lo (.inl rfl)] at h'
      simp only [Bool.and_eq_true, decide_eq_true_eq] at h'
      exact List.length_eq_zero_iff.1 h'.2.2
    simp [valsOf, quotesL, joinB, mq_quote, hs]
  · have hs : ss = [] := by
      have h' : okM 1 n x ss = true := h
      rw [okM_lo (.inr (.inl rfl))] at h'
      simp only [Bool.and_eq_true, decide_eq_true_eq] at h'
      exact List.length_eq_zero_iff.1 h'.2.2
    simp [valsOf, quotesL, joinB, mq_quote, hs]
  · have hs : ss = [] := by
      have h' : okM 2 n x ss = true := h
      rw [okM_lo (.inr (.inr rfl))] at h'
      simp only [Bool.and_eq_true, decide_eq_true_eq] at h'
      exact List.length_eq_zero_iff.1 h'.2.2
    simp [valsOf, quotesL, joinB, mq_quote, hs]
  · have h3 := h
    unfold okMat at h3
    rw [okM_3] at h3
    simp only [Bool.and_eq_true, decide_eq_true_eq, beq_iff_eq] at h3
    obtain ⟨-, ⟨⟨hx, h0⟩, -⟩, -⟩ := h3
    match ss, h0 with
    | y :: l, _ =>
      have e1 : quotesL (valsOf ⟨3, n, x, y :: l⟩) ++ b = quoteL y ++ (((l.map quoteL).flatMap fun y => [124] ++ y) ++ b) := by
        simp [valsOf, quotesL, joinB]
      rw [e1, mq_quote]
      simp only
      rw [if_neg (by omega), barsF_bars l _ [y] b hb (by omega), hx]
      rfl

/-- What stands behind the matchers that were read: more of them, and the end. -/
def tailM : Bool → List Mat → Bytes
  | _, [] => [93]
  | true, x :: tl => partM x ++ tailM false tl
  | false, x :: tl => 44 :: (partM x ++ tailM false tl)
theorem tailM_bar (b : Bool) (tl : List Mat) (h : b = true → tl = []) : isPre [124] (tailM b tl) = false := by
  match b, tl, h with
  | true, [], _ => rfl
  | false, [], _ => rfl
  | true, x :: tl, h => exact absurd (h rfl) (by simp)
  | false, x :: tl, _ => rfl
theorem tailM_flat : ∀ tl : List Mat, tailM false tl = ((tl.map partM).flatMap fun y => [44] ++ y) ++ [93]
  | [] => rfl
  | x :: tl => by simp [tailM, tailM_flat tl]
theorem printP_tail (ms : List Mat) : printP (bodyM ms) true = 91 :: tailM true ms := by
  cases ms with
  | nil => rfl
  | cons x tl => simp [printP, bodyM, joinB, tailM, tailM_flat]
theorem partM_len (m : Mat) : 1 ≤ (partM m).length := by simp [partM]; omega
theorem quotes_len {l : List Bytes} (h : l ≠ []) : 2 ≤ (quotesL l).length := by
  cases l with
  | nil => exact absurd rfl h
  | cons x r => have := (quoteL_len x).1; simp [quotesL, joinB]; omega
theorem vals_ne {m : Mat} (h : okMat m = true) : valsOf m ≠ [] := by
  rcases ok_kind h with e | e | e | e
  · simp [valsOf, e]
  · simp [valsOf, e]
  · simp [valsOf, e]
  · unfold okMat at h; rw [e, okM_3] at h
    simp only [Bool.and_eq_true, decide_eq_true_eq] at h
    simp only [valsOf, e]
    intro hs
    have := h.2.1.1.2
    rw [show m.ss = [] from hs] at this; simp at this
theorem partM_ge {m : Mat} (h : okMat m = true) : 3 ≤ (partM m).length := by
  have := quotes_len (vals_ne h)
  simp [partM]; omega
theorem partM_cut {x : Mat} {nm r T : Bytes} (hx : okMat x = true) (hn : (61 : UInt8) ∉ nm) (h : nm ++ 61 :: r = partM x ++ T) : nm = x.n ++ preK x.k ∧ r = quotesL (valsOf x) ++ T := by
  unfold partM at h
  rw [List.append_assoc (x.n ++ preK x.k), List.cons_append] at h
  exact cut61 hn (head_no61 hx) h
theorem chk_ok {ms : List Mat} (h : chkM ms = true) {x : Mat} (hx : x ∈ ms) : okMat x = true := by
  simp only [chkM, Bool.and_eq_true, List.all_eq_true] at h
  exact h.2 x hx

theorem ParsedM.uniq {s : Bytes} {o p : Option (List Mat)} (ho : ParsedM s o) (hp : ParsedM s p) (hi : ∀ a b, chkM a = true → chkM b = true → printP (bodyM a) true = printP (bodyM b) true → a = b) : o = p := by
  match o, p, ho, hp with
  | none, none, _, _ => rfl
  | none, some ls, h, ⟨h1, h2⟩ => exact absurd h2 (h ls h1)
  | some ls, none, ⟨h1, h2⟩, h => exact absurd h2 (h ls h1)
  | some a, some b, ⟨h1, h2⟩, ⟨h3, h4⟩ => rw [hi a b h1 h3 (h2.trans h4.symm)]
theorem tail_injM : ∀ {a b : List Mat}, (∀ x ∈ a, okMat x = true) → (∀ x ∈ b, okMat x = true) → tailM false a = tailM false b → a = b
  | [], [], _, _, _ => rfl
  | [], y :: b, _, hb, h => by
    have := congrArg List.length h
    have h2 := partM_ge (hb y (List.mem_cons_self ..))
    simp only [tailM, List.length_cons, List.length_append, List.length_nil] at this; omega
  | x :: a, [], ha, _, h => by
    have := congrArg List.length h
    have h2 := partM_ge (ha x (List.mem_cons_self ..))
    simp only [tailM, List.length_cons, List.length_append, List.length_nil] at this; omega
  | x :: a, y :: b, ha, hb, h => by
    have hx := ha x (List.mem_cons_self ..)
    have hy := hb y (List.mem_cons_self ..)
    have h' : partM x ++ tailM false a = partM y ++ tailM false b := (List.cons.inj h).2
    have hp := par1_ok hx (tailM_bar false a (by simp))
    have e0 : partM x ++ tailM false a = (x.n ++ preK x.k) ++ 61 :: (quotesL (valsOf x) ++ tailM false a) := by simp [partM]
    obtain ⟨e1, e2⟩ := partM_cut hy (head_no61 hx) (e0.symm.trans h')
    rw [e1, e2, par1_ok hy (tailM_bar false b (by simp))] at hp
    simp only [Option.some.injEq, Prod.mk.injEq] at hp
    rw [hp.1, tail_injM (fun z hz => ha z (List.mem_cons_of_mem _ hz)) (fun z hz => hb z (List.mem_cons_of_mem _ hz)) hp.2.symm]
theorem print_injM (a b : List Mat) (ha : chkM a = true) (hb : chkM b = true) (h : printP (bodyM a) true = printP (bodyM b) true) : a = b := by
  rw [printP_tail, printP_tail] at h
  have h' := (List.cons.inj h).2
  match a, b with
  | [], [] => rfl
  | [], y :: b =>
    have := congrArg List.length h'
    have h2 := partM_ge (chk_ok hb (List.mem_cons_self ..))
    simp only [tailM, List.length_cons, List.length_append, List.length_nil] at this; omega
  | x :: a, [] =>
    have := congrArg List.length h'
    have h2 := partM_ge (chk_ok ha (List.mem_cons_self ..))
    simp only [tailM, List.length_cons, List.length_append, List.length_nil] at this; omega
  | x :: a, y :: b =>
    refine tail_injM (fun z hz => chk_ok ha hz) (fun z hz => chk_ok hb hz) ?_
    show 44 :: (partM x ++ tailM false a) = 44 :: (partM y ++ tailM false b)
    rw [show partM x ++ tailM false a = partM y ++ tailM false b from h']
theorem ParsedM.un {s : Bytes} {o p : Option (List Mat)} (ho : ParsedM s o) (hp : ParsedM s p) : o = p := ho.uniq hp print_injM

/-- Where match.Parse of s stands. -/
def PM (s : Bytes) (acc : List Mat) (rest : Bytes) : Prop := ∀ ms, chkM ms = true → printP (bodyM ms) true = s → ∃ tl, ms = acc ++ tl ∧ rest = tailM acc.isEmpty tl
theorem PM.start {s rest : Bytes} (h : s = 91 :: rest) : PM s [] rest := by
  intro ms _ hp
  rw [printP_tail, h] at hp
  exact ⟨ms, rfl, (List.cons.inj hp).2.symm⟩
theorem parsedM_open {s : Bytes} (h : isPre [91] s = false) : ParsedM s none := by
  intro ms _ hp
  rw [printP_tail] at hp
  rw [← hp] at h
  simp [isPre] at h
theorem PM.more {s : Bytes} {acc : List Mat} {rest : Bytes} (h : PM s acc rest) (h0 : rest ≠ [93]) :
    ∀ ms, chkM ms = true → printP (bodyM ms) true = s → ∃ x tl, ms = acc ++ x :: tl ∧ okMat x = true ∧ rest = (if acc.isEmpty then [] else [44]) ++ (partM x ++ tailM false tl) := by
  intro ms hc hp
  obtain ⟨tl, e1, e2⟩ := h ms hc hp
  cases tl with
  | nil => cases hd : acc.isEmpty <;> rw [hd] at e2 <;> exact absurd e2 h0
  | cons x tl =>
    refine ⟨x, tl, e1, chk_ok hc (by rw [e1]; simp), ?_⟩
    cases ha : acc.isEmpty
    · rw [e2, ha]; rfl
    · rw [e2, ha]; rfl
theorem PM.none0 {s : Bytes} {acc : List Mat} {rest : Bytes} (h : PM s acc rest) (h0 : rest ≠ [93]) (ha : acc.isEmpty = false) (hc : isPre [44] rest = false) : ParsedM s none := by
  intro ms hc' hp
  obtain ⟨x, tl, e1, _, e2⟩ := h.more h0 ms hc' hp
  rw [e2, ha] at hc
  simp [isPre] at hc
theorem PM.none1 {s : Bytes} {acc : List Mat} {rest r : Bytes} (h : PM s acc rest) (h0 : rest ≠ [93]) (hr : rest = (if acc.isEmpty then [] else [44]) ++ r) (hn : (61 : UInt8) ∉ r) : ParsedM s none := by
  intro ms hc' hp
  obtain ⟨x, tl, e1, _, e2⟩ := h.more h0 ms hc' hp
  rw [hr] at e2
  have e3 := List.append_cancel_left e2
  exact hn (by rw [e3]; simp [partM])
theorem PM.key {s : Bytes} {acc : List Mat} {rest nm r : Bytes} (h : PM s acc rest) (h0 : rest ≠ [93]) (hr : rest = (if acc.isEmpty then [] else [44]) ++ (nm ++ 61 :: r)) (hn : (61 : UInt8) ∉ nm) :
    ∀ ms, chkM ms = true → printP (bodyM ms) true = s → ∃ x tl, ms = acc ++ x :: tl ∧ par1 nm r = some (x, tailM false tl) := by
  intro ms hc hp
  obtain ⟨x, tl, e1, hx, e2⟩ := h.more h0 ms hc hp
  rw [hr] at e2
  have e3 := List.append_cancel_left e2
  obtain ⟨e4, e5⟩ := partM_cut hx hn e3
  exact ⟨x, tl, e1, by rw [e4, e5]; exact par1_ok hx (tailM_bar false tl (by simp))⟩
theorem PM.none2 {s : Bytes} {acc : List Mat} {rest nm r : Bytes} (h : PM s acc rest) (h0 : rest ≠ [93]) (hr : rest = (if acc.isEmpty then [] else [44]) ++ (nm ++ 61 :: r)) (hn : (61 : UInt8) ∉ nm)
    (hq : par1 nm r = none) : ParsedM s none := by
  intro ms hc hp
  obtain ⟨x, tl, _, e⟩ := h.key h0 hr hn ms hc hp
  rw [hq] at e; cases e
theorem PM.next {s : Bytes} {acc : List Mat} {rest nm r r' : Bytes} {m : Mat} (h : PM s acc rest) (h0 : rest ≠ [93]) (hr : rest = (if acc.isEmpty then [] else [44]) ++ (nm ++ 61 :: r)) (hn : (61 : UInt8) ∉ nm)
    (hq : par1 nm r = some (m, r')) : PM s (acc ++ [m]) r' := by
  intro ms hc hp
  obtain ⟨x, tl, e1, e⟩ := h.key h0 hr hn ms hc hp
  rw [hq] at e
  simp only [Option.some.injEq, Prod.mk.injEq] at e
  have h9 : (acc ++ [m]).isEmpty = false := by cases acc <;> rfl
  exact ⟨tl, by rw [e1, e.1]; simp, by rw [e.2, h9]⟩
theorem PM.fin {s : Bytes} {acc : List Mat} (h : PM s acc [93]) : ∀ ms, chkM ms = true → printP (bodyM ms) true = s → ms = acc := by
  intro ms hc hp
  obtain ⟨tl, e1, e2⟩ := h ms hc hp
  cases tl with
  | nil => rw [e1]; simp
  | cons x tl =>
    have h1 := partM_ge (chk_ok hc (show x ∈ ms by rw [e1]; simp))
    have := congrArg List.length e2
    cases hd : acc.isEmpty <;> rw [hd] at this <;> simp only [tailM, List.length_cons, List.length_append, List.length_nil] at this <;> omega
theorem fin_yes {s : Bytes} {acc : List Mat} (hc : chkM acc = true) (hp : printP (bodyM acc) true = s) : ParsedM s (some acc) := ⟨hc, hp⟩
theorem fin_no1 {s : Bytes} {acc : List Mat} (h : ∀ ms, chkM ms = true → printP (bodyM ms) true = s → ms = acc) (hc : chkM acc = false) : ParsedM s none := by
  intro ms hc' hp
  rw [h ms hc' hp, hc] at hc'; cases hc'
theorem fin_no2 {s : Bytes} {acc : List Mat} (h : ∀ ms, chkM ms = true → printP (bodyM ms) true = s → ms = acc) (hq : printP (bodyM acc) true ≠ s) : ParsedM s none := by
  intro ms hc' hp
  rw [h ms hc' hp] at hp; exact hq hp

/-- Where the document's Parse of s stands. -/
def RM (s : Bytes) (acc : List Mat) (at_ : Nat) : Prop :=
  ∀ ms, chkM ms = true → printP (bodyM ms) true = s → (at_ < s.length → ∃ x tl, ms = acc ++ x :: tl ∧ okMat x = true ∧ s.drop at_ = partM x ++ tailM false tl) ∧ (¬ at_ < s.length → ms = acc)
theorem RM.start {s : Bytes} (h : s ≠ [91, 93]) : RM s [] 1 := by
  intro ms hc hp
  rw [printP_tail] at hp
  cases ms with
  | nil => exact absurd hp.symm h
  | cons x tl =>
    have hx := chk_ok hc (List.mem_cons_self ..)
    refine ⟨fun _ => ⟨x, tl, rfl, hx, by rw [← hp]; rfl⟩, fun hn => ?_⟩
    have := partM_ge hx
    rw [← hp] at hn
    simp only [tailM, List.length_cons, List.length_append] at hn; omega
theorem RM.none1 {s : Bytes} {acc : List Mat} {at_ : Nat} (h : RM s acc at_) (hl : at_ < s.length) (hn : (61 : UInt8) ∉ s.drop at_) : ParsedM s none := by
  intro ms hc hp
  obtain ⟨x, tl, _, _, e⟩ := (h ms hc hp).1 hl
  exact hn (by rw [e]; simp [partM])
theorem RM.key {s : Bytes} {acc : List Mat} {at_ k : Nat} (h : RM s acc at_) (hk : k < s.length) (ha : at_ ≤ k) (hc : byteAt s k = 61) (hn : NoEq s at_ k) :
    ∀ ms, chkM ms = true → printP (bodyM ms) true = s → ∃ x tl, ms = acc ++ x :: tl ∧ okMat x = true ∧ (s.drop at_).take (k - at_) = x.n ++ preK x.k ∧ par1 ((s.drop at_).take (k - at_)) (s.drop (k + 1)) = some (x, tailM false tl) := by
  intro ms hcl hp
  obtain ⟨x, tl, e1, hx, e2⟩ := (h ms hcl hp).1 (by omega)
  rw [split_k hk ha hc] at e2
  obtain ⟨e4, e5⟩ := partM_cut hx hn e2
  exact ⟨x, tl, e1, hx, e4, by rw [e4, e5]; exact par1_ok hx (tailM_bar false tl (by simp))⟩
theorem RM.none2 {s : Bytes} {acc : List Mat} {k : Nat} (h : RM s acc k) (hk : k < s.length) (hc : byteAt s k = 61) : ParsedM s none := by
  intro ms hcl hp
  obtain ⟨x, tl, _, hx, e, _⟩ := h.key hk (Nat.le_refl _) hc (NoEq.start s k) ms hcl hp
  have h1 := ok_name hx
  have h2 : x.n = [] := by
    rw [Nat.sub_self, List.take_zero] at e
    exact (List.append_eq_nil_iff.1 e.symm).1
  rw [h2] at h1
  exact absurd h1 (by decide)
theorem RM.none3 {s : Bytes} {acc : List Mat} {at_ k : Nat} (h : RM s acc at_) (hk : k < s.length) (ha : at_ ≤ k) (hc : byteAt s k = 61) (hn : NoEq s at_ k)
    (hq : par1 ((s.drop at_).take (k - at_)) (s.drop (k + 1)) = none) : ParsedM s none := by
  intro ms hcl hp
  obtain ⟨x, tl, _, _, _, e⟩ := h.key hk ha hc hn ms hcl hp
  rw [hq] at e; cases e
theorem RM.next {s : Bytes} {acc : List Mat} {at_ k p : Nat} {m : Mat} {r : Bytes} (h : RM s acc at_) (hk : k < s.length) (ha : at_ ≤ k) (hc : byteAt s k = 61) (hn : NoEq s at_ k)
    (hq : par1 ((s.drop at_).take (k - at_)) (s.drop (k + 1)) = some (m, r)) (hp : s.drop p = r) : RM s (acc ++ [m]) (p + 1) := by
  intro ms hcl hpr
  obtain ⟨x, tl, e1, _, _, e⟩ := h.key hk ha hc hn ms hcl hpr
  rw [hq] at e
  simp only [Option.some.injEq, Prod.mk.injEq] at e
  obtain ⟨e2, e3⟩ := e
  have hlen := congrArg List.length (hp.trans e3)
  have hd : s.drop (p + 1) = (tailM false tl).drop 1 := by rw [← List.drop_drop, hp, e3]
  cases tl with
  | nil =>
    simp only [tailM, List.length_cons, List.length_nil, List.length_drop] at hlen
    exact ⟨fun hlt => by omega, fun _ => by rw [e1, e2]⟩
  | cons y tl =>
    have hy := chk_ok hcl (show y ∈ ms by rw [e1]; simp)
    have := partM_ge hy
    simp only [tailM, List.length_cons, List.length_append, List.length_drop] at hlen
    refine ⟨fun _ => ⟨y, tl, by rw [e1, e2]; simp, hy, by rw [hd]; rfl⟩, fun hnl => ?_⟩
    omega
theorem RM.fin {s : Bytes} {acc : List Mat} {at_ : Nat} (h : RM s acc at_) (hl : ¬ at_ < s.length) : ∀ ms, chkM ms = true → printP (bodyM ms) true = s → ms = acc := fun ms hc hp => (h ms hc hp).2 hl
theorem parsedM_empty {s : Bytes} (h : s = [91, 93]) : ParsedM s (some []) := ⟨by decide, by rw [h]; rfl⟩

theorem wm_snoc (acc : List Mat) (m : Mat) : wm (acc ++ [m]) = wm acc + (m.n.length + m.x.length + m.ss.length + sl m.ss) := by simp [wm]

end Go.Proofs.Ytamdkmcdleilpaa
