/-
  Slices that hold a list of elements of k cells; two lists merged by an order (plain).
-/
import Derived.Test.YtheenlomlmbjaaaGreatDoorTSwap
import Derived.Maps.AppendAt
import Derived.Test.YtheenlomlmbjaaaGreatDoorMatch
import Derived.Deep.DrawnRows
import Derived.Test.YtheenlomlmbjaaaGreatDoorTLz
set_option linter.unusedSimpArgs false
set_option linter.unusedVariables false
namespace Go.Proofs.YtheenlomlmbjaaaGreatDoor
open Go.RowKit

def RowG {α : Type} (k : Nat) (enc : α → List Value) (w : World) (v : Value) (l : List α) : Prop :=
  ∃ a cap, v = .slice a l.length cap ∧ l.length ≤ cap ∧ cap ≤ 9223372036854775807 ∧ (a = none → l.length = 0 ∧ cap = 0) ∧
    (l ≠ [] → ∃ b off, a = some ⟨b, off, none⟩ ∧ b < w.heap.size ∧ ∀ j u, (l.flatMap enc)[j]? = some u → w.cell? ⟨b, off + j, none⟩ = some u)

section
variable {α : Type} {k : Nat} {enc : α → List Value} {w w' : World} {v : Value} {l : List α}

theorem RowG.nil (w : World) : RowG k enc w (.slice none 0 0) ([] : List α) := ⟨none, 0, rfl, Nat.le_refl _, by omega, fun _ => ⟨rfl, rfl⟩, fun h => absurd rfl h⟩
theorem RowG.below (h : RowG k enc w v l) (hb : Below w.heap.size w w') : RowG k enc w' v l := by
  obtain ⟨a, cap, hv, h1, h2, h3, h4⟩ := h
  refine ⟨a, cap, hv, h1, h2, h3, fun hx => ?_⟩
  obtain ⟨b, off, ha, hlt, hc⟩ := h4 hx
  exact ⟨b, off, ha, Nat.lt_of_lt_of_le hlt hb.size, fun j u hj => (hb.cell (p := ⟨b, off + j, none⟩) hlt).trans (hc j u hj)⟩
theorem OwnR.rowG {t base : Nat} (h : OwnR t k enc w base v l) : RowG k enc w v l := by
  obtain ⟨h1, h2⟩ := h
  rcases h2 with ⟨rfl, h0⟩ | ⟨g, cap, cur, rfl, hg, hh, hn, hcap, hs, htake⟩
  · exact ⟨none, 0, by rw [h0], by omega, by omega, fun _ => ⟨h0, rfl⟩, fun hx => absurd (List.eq_nil_of_length_eq_zero h0) hx⟩
  · refine ⟨_, cap, rfl, hn, by simp only [maxLen] at hcap; omega, fun e => (by cases e), fun _ => ⟨g, 0, rfl, (Array.getElem?_eq_some_iff.1 hh).1, fun j u hj => ?_⟩⟩
    rw [cell_of_row w g _ cur t (0, 0) hh, Nat.zero_add]
    rw [← htake, List.getElem?_take] at hj
    split at hj
    · simpa using hj
    · cases hj
theorem RowG.src (h : RowG k enc w v l) (hk : ∀ x, (enc x).length = k) :
    ∃ ao cap, v = .slice ao l.length cap ∧ l.length ≤ cap ∧ cap ≤ 9223372036854775807 ∧ (l.flatMap enc).length = l.length * k ∧ (ao = none → l.length = 0 ∧ cap = 0) ∧ ∀ ad, ao = some ad → ∀ j u, (l.flatMap enc)[j]? = some u → w.cell? (ad.add j) = some u := by
  obtain ⟨a, cap, hv, h1, h2, h3, h4⟩ := h
  refine ⟨a, cap, hv, h1, h2, flat_len hk l, h3, fun ad e j u hj => ?_⟩
  have hx : l ≠ [] := fun e => by subst e; simp at hj
  obtain ⟨b, off, ha, hlt, hc⟩ := h4 hx
  rw [e] at ha
  cases ha
  rw [Addr.add_lit]
  exact hc j u hj
theorem RowG.cons {x : α} {r : List α} (h : RowG k enc w v (x :: r)) :
    ∃ b off cap, v = .slice (some ⟨b, off, none⟩) (r.length + 1) cap ∧ r.length + 1 ≤ cap ∧ cap ≤ 9223372036854775807 ∧ b < w.heap.size ∧ (∀ j u, (enc x)[j]? = some u → w.cell? ⟨b, off + j, none⟩ = some u) ∧
      ((enc x).length = k → RowG k enc w (.slice (if cap = 1 then some ⟨b, off, none⟩ else some ⟨b, off + k, none⟩) r.length (cap - 1)) r) := by
  obtain ⟨a, cap, hv, h1, h2, h3, h4⟩ := h
  obtain ⟨b, off, rfl, hlt, hc⟩ := h4 (by simp)
  refine ⟨b, off, cap, hv, h1, h2, hlt, fun j u hj => hc j u ?_, fun hk => ?_⟩
  · rw [List.flatMap_cons, List.getElem?_append_left (List.getElem?_eq_some_iff.1 hj).1]; exact hj
  · simp only [List.length_cons] at h1
    refine ⟨_, cap - 1, rfl, by omega, by omega, (fun e => by split at e <;> cases e), fun hne => ?_⟩
    have hl : 0 < r.length := List.length_pos_iff.2 hne
    refine ⟨b, off + k, by rw [if_neg (by omega)], hlt, fun j u hj => ?_⟩
    rw [Nat.add_assoc]
    refine hc (k + j) u ?_
    rw [List.flatMap_cons, List.getElem?_append_right (by omega), hk, show k + j - k = j by omega]
    exact hj
end

theorem app_rowG {α : Type} {P : Program} {k bytes : Nat} {enc : α → List Value} (hk : ∀ x, (enc x).length = k) (h1c : ∀ x, ∀ u ∈ enc x, u.oneCell' = true) (w : World) {ops : Array Oper} {rest : List Oper} {o : Oper} {a : Act} {Q : Exit → Act → World → Prop}
    (hgd : o.guard = none) (s x : Operand) (t : TypeId) (ho : o.op = .call { callee := .builtin .append, args := #[s, x], argTypes := #[t, t] })
    (base : Nat) (e : TypeId) (i : TypeInfo) (z : Value) (ht : P.underlying t = some (.slice e)) (hi : P.info? e = some i) (hz : i.zero = some z) (hsize : i.size = k) (hby : i.bytes = bytes) (hzs : z.cells.size = k) (hsz : 0 < k) (hb100 : bytes ≤ 100)
    (v u : Value) (l l2 : List α) (hs : a.eval s = v) (hx : a.eval x = u) (hown : OwnR e k enc w base v l) (hu : RowG k enc w u l2) (hlen : l.length + l2.length ≤ 1000000000) (hbase : base ≤ w.heap.size)
    (h : ∀ v' w', OwnR e k enc w' base v' (l ++ l2) → Below base w w' → wpList P ops Q rest (a.put o.dst v') w') :
    wpList P ops Q (o :: rest) a w := by
  obtain ⟨ao, cap, rfl, h1, h2, h3, h4, h5⟩ := hu.src hk
  have hone : ∀ u ∈ l2.flatMap enc, u.oneCell' = true := by
    intro u hu
    obtain ⟨x, _, hx⟩ := List.mem_flatMap.1 hu
    exact h1c x u hx
  cases ao with
  | none =>
    obtain ⟨h0, rfl⟩ := h4 rfl
    have hl2 : l2 = [] := List.eq_nil_of_length_eq_zero h0
    subst hl2
    refine wpList_plain hgd fun K hK' => ?_
    have hrun := run_append_owned_none (P := P) w base t o.type e i k ht hi _ l.length (l.flatMap enc) hown
    unfold Oper.wp
    simp only [List.length_nil] at hx
    simp [execOp, ho, resolve, invoke, builtin, hs, hx, hrun, Result.andThen]
    exact hK' _ _ (by simpa using h v w (by simpa using hown) (Below.refl _ _))
  | some ad =>
    refine wpList_append_own_at w hgd s x t ho base e i z k bytes ht hi hz hsize hby hzs hsz v l.length (l.flatMap enc) hs hown ad l2.length cap (l2.flatMap enc) hx h3 (h5 ad rfl) hone (by simp only [maxLen]; omega) ?_ hbase ?_
    · have : (l.length + l2.length) * bytes ≤ 1000000000 * 100 := Nat.mul_le_mul hlen hb100
      omega
    · intro v' w' h1 h2 _ _
      refine h v' w' ?_ ((Below.refl _ _).grown h2 hbase (fun k hk => (hown.lt k hk).1))
      unfold OwnR
      rw [List.length_append, List.flatMap_append]
      exact h1

def mergeF {α : Type} (c : α → α → Int) : List α → List α → List α
  | [], b => b
  | x :: a, [] => x :: a
  | x :: a, y :: b => if c x y < 0 then x :: mergeF c a (y :: b) else if c x y = 0 then y :: mergeF c a b else y :: mergeF c (x :: a) b
termination_by a b => a.length + b.length
theorem mergeF_nil {α : Type} (c : α → α → Int) (b : List α) : mergeF c [] b = b := by rw [mergeF]
theorem mergeF_nil' {α : Type} (c : α → α → Int) (a : List α) : mergeF c a [] = a := by cases a <;> rw [mergeF]
theorem mergeF_lt {α : Type} {c : α → α → Int} {x y : α} {a b : List α} (h : c x y < 0) : mergeF c (x :: a) (y :: b) = x :: mergeF c a (y :: b) := by rw [mergeF, if_pos h]
theorem mergeF_eq {α : Type} {c : α → α → Int} {x y : α} {a b : List α} (h : c x y = 0) : mergeF c (x :: a) (y :: b) = y :: mergeF c a b := by rw [mergeF, if_neg (by omega), if_pos h]
theorem mergeF_gt {α : Type} {c : α → α → Int} {x y : α} {a b : List α} (h : 0 < c x y) : mergeF c (x :: a) (y :: b) = y :: mergeF c (x :: a) b := by rw [mergeF, if_neg (by omega), if_neg (by omega)]
theorem mergeF_len {α : Type} (c : α → α → Int) (a b : List α) : (mergeF c a b).length ≤ a.length + b.length := by
  fun_induction mergeF c a b <;> simp only [List.length_cons, List.length_nil] at * <;> omega

end Go.Proofs.YtheenlomlmbjaaaGreatDoor

namespace Go.Proofs.YtheenlomlmbjaaaGreatDoor
open Go.RowKit Go.Maps

structure ETy {α : Type} (st t k bytes : Nat) (enc : α → List Value) : Prop where
  und : Tryz.prog.underlying st = some (.slice t)
  info : ∃ z : Value, (Tryz.prog.info? t).map (fun i => (i.zero, i.size, i.bytes)) = some (some z, k, bytes) ∧ z.cells.size = k
  pos : 0 < k
  small : bytes ≤ 100
  len : ∀ x, (enc x).length = k
  one : ∀ x, ∀ u ∈ enc x, u.oneCell' = true
theorem tySmp : ETy 47 211 2 16 encS :=
  ⟨Tryz.underlying47, ⟨_, infoSmp, rfl⟩, by decide, by decide, fun _ => rfl, fun x u hu => by simp [encS] at hu; rcases hu with rfl | rfl <;> rfl⟩
theorem tyRow : ETy 105 119 3 24 encRw :=
  ⟨Tryz.underlying105, ⟨_, infoRow, rfl⟩, by decide, by decide, fun _ => rfl, fun x u hu => by simp [encRw] at hu; rcases hu with rfl | rfl | rfl <;> rfl⟩

section
variable {α : Type} {st t k bytes : Nat} {enc : α → List Value}
theorem app1 (E : ETy st t k bytes enc) (w : World) {ops : Array Oper} {rest : List Oper} {o : Oper} {a : Act} {Q : Exit → Act → World → Prop} (hgd : o.guard = none) (s x : Operand)
    (ho : o.op = .call { callee := .builtin .append, args := #[s, x], argTypes := #[st, st] })
    (base : Nat) (v : Value) (l : List α) (y : α) (g : Nat) (hs : a.eval s = v) (hx : a.eval x = .slice (some ⟨g, 0, none⟩) 1 1)
    (cs : Array Value) (hcs : cs.toList = enc y) (hnew : w.heap[g]? = some (.cells cs t (0, 0))) (hown : OwnR t k enc w base v l) (hbase : base ≤ w.heap.size) (hlen : l.length ≤ 1000000000)
    (h : ∀ g' cap w', OwnR t k enc w' base (.slice (some ⟨g', 0, none⟩) (l.length + 1) cap) (l ++ [y]) → Below base w w' → w.grownBy w' v.ownBlock → wpList Tryz.prog ops Q rest (a.put o.dst (.slice (some ⟨g', 0, none⟩) (l.length + 1) cap)) w') :
    wpList Tryz.prog ops Q (o :: rest) a w := by
  obtain ⟨z, hz, hzk⟩ := E.info
  obtain ⟨i0, hi, hz0, hz1, hz2⟩ := info_parts hz
  have hb : (l.length + 1) * bytes ≤ 1000000001 * 100 := Nat.mul_le_mul (by omega) E.small
  refine wpList_append_lies w hgd s x st ho base t i0 z k bytes E.und hi hz0 hz1 hz2 hzk E.pos v l.length _ hs hown
    ⟨g, 0, none⟩ 1 1 (enc y) hx (by rw [E.len]; omega) (by rw [← hcs]; exact World.news_of_block hnew) (E.one y) (by omega) (by simp only [maxLen]; omega) (by omega) hbase _ rfl ?_
  intro g' cap w' h1 h2 _ _
  refine h g' cap w' ?_ ((Below.refl _ _).grown h2 hbase (fun k hk => (hown.lt k hk).1)) h2
  unfold OwnR
  simpa using h1
theorem stepApp1 (E : ETy st t k bytes enc) (w : World) {ops : Array Oper} {o : Oper} {a : Act} {K : Act → World → Prop} {Q : Exit → Act → World → Prop} {Ex : Prop} (hgd : o.guard = none) (s x : Operand)
    (ho : o.op = .call { callee := .builtin .append, args := #[s, x], argTypes := #[st, st] })
    (base : Nat) (v : Value) (l : List α) (y : α) (g : Nat) (hs : a.eval s = v) (hx : a.eval x = .slice (some ⟨g, 0, none⟩) 1 1)
    (cs : Array Value) (hcs : cs.toList = enc y) (hnew : w.heap[g]? = some (.cells cs t (0, 0))) (hown : OwnR t k enc w base v l) (hbase : base ≤ w.heap.size) (hlen : l.length ≤ 1000000000)
    (h : ∀ g' cap w', OwnR t k enc w' base (.slice (some ⟨g', 0, none⟩) (l.length + 1) cap) (l ++ [y]) → Below base w w' → w.grownBy w' v.ownBlock → (v.ownBlock = some g' ∨ w.heap.size ≤ g') → K (a.put o.dst (.slice (some ⟨g', 0, none⟩) (l.length + 1) cap)) w') :
    if Region.wanted o (yielded ops a.tmps) = true then Oper.wp Tryz.prog o a w K Q else Ex := by
  obtain ⟨z, hz, hzk⟩ := E.info
  obtain ⟨i0, hi, hz0, hz1, hz2⟩ := info_parts hz
  have hb : (l.length + 1) * bytes ≤ 1000000001 * 100 := Nat.mul_le_mul (by omega) E.small
  refine step_append_lies w hgd s x st ho base t i0 z k bytes E.und hi hz0 hz1 hz2 hzk E.pos v l.length _ hs hown
    ⟨g, 0, none⟩ 1 1 (enc y) hx (by rw [E.len]; omega) (by rw [← hcs]; exact World.news_of_block hnew) (E.one y) (by omega) (by simp only [maxLen]; omega) (by omega) hbase _ rfl ?_
  intro g' cap w' h1 h2 h3 _
  refine h g' cap w' ?_ ((Below.refl _ _).grown h2 hbase (fun k hk => (hown.lt k hk).1)) h2 (h3.imp id (fun e => by omega))
  unfold OwnR
  simpa using h1
theorem appG (E : ETy st t k bytes enc) (w : World) {ops : Array Oper} {rest : List Oper} {o : Oper} {a : Act} {Q : Exit → Act → World → Prop} (hgd : o.guard = none) (s x : Operand)
    (ho : o.op = .call { callee := .builtin .append, args := #[s, x], argTypes := #[st, st] })
    (base : Nat) (v u : Value) (l l2 : List α) (hs : a.eval s = v) (hx : a.eval x = u) (hown : OwnR t k enc w base v l) (hu : RowG k enc w u l2) (hlen : l.length + l2.length ≤ 1000000000) (hbase : base ≤ w.heap.size)
    (h : ∀ v' w', OwnR t k enc w' base v' (l ++ l2) → Below base w w' → wpList Tryz.prog ops Q rest (a.put o.dst v') w') :
    wpList Tryz.prog ops Q (o :: rest) a w := by
  obtain ⟨z, hz, hzk⟩ := E.info
  obtain ⟨i0, hi, hz0, hz1, hz2⟩ := info_parts hz
  exact app_rowG E.len E.one w hgd s x st ho base t i0 z E.und hi hz0 hz1 hz2 hzk E.pos E.small v u l l2 hs hx hown hu hlen hbase h
end

abbrev nilS : Value := .slice none 0 0
abbrev kI (id : Int) : Lit := .int .i64 id
abbrev keyedInt : Keyed Tryz.prog 3 := int_keyed Tryz.underlying3
theorem wf_i64 {a : Int} (h0 : -9223372036854775808 ≤ a) (h1 : a ≤ 9223372036854775807) : (Lit.int .i64 a).wf = true := by
  have e : IntKind.i64.min = -9223372036854775808 := rfl
  have e2 : IntKind.i64.max = 9223372036854775807 := rfl
  simp only [Lit.wf, e, e2, Bool.and_eq_true, decide_eq_true_eq]
  exact ⟨h0, h1⟩
theorem keyI {id : Int} (h0 : 0 ≤ id) (h1 : id < 100000) : keyOf Tryz.prog 3 (.int .i64 id) = some (kI id) :=
  keyOf_int_mk Tryz.underlying3 (wf_i64 (by omega) (by omega))

structure GrpG {α : Type} (t k : Nat) (enc : α → List Value) (b N : Nat) (L : Int → List α) (w : World) (D : DataW Value) (V : Int → Value) : Prop where
  map : ∃ n, OMap Tryz.prog 3 w b n D ∧ n ≤ N
  isM : Maps.IsMap D
  at_ : ∀ id, D.atKey (kI id) (.held nilS) = .held (V id)
  has : ∀ id, Maps.has D (kI id) = true ↔ L id ≠ []
  keys : ∀ kl, Maps.has D kl = true → ∃ id, kl = kI id ∧ 0 ≤ id ∧ id < 100000
  own : ∀ id, OwnR t k enc w (b + 1) (V id) (L id)
  apart : ∀ id id', id ≠ id' → (V id).ownBlock = none ∨ (V id).ownBlock ≠ (V id').ownBlock
theorem GrpG.start {α : Type} {t k : Nat} {enc : α → List Value} (w : World) : GrpG t k enc w.heap.size 0 (fun _ => []) (w.alloc (.map #[] 0)) (.map []) (fun _ => nilS) :=
  ⟨⟨0, World.ownsMap_made _ _ _ _, Nat.le_refl _⟩, ⟨[], rfl⟩, fun _ => rfl, fun id => by simp [Maps.has], fun kl h => by simp [Maps.has] at h, fun _ => OwnR.nil _ _, fun _ _ _ => .inl rfl⟩
theorem GrpG.step {α : Type} {t k : Nat} {enc : α → List Value} {mt st b N : Nat} {L : Int → List α} {w w1 : World} {D : DataW Value} {V : Int → Value} {r : Int} {y : α} {g cap : Nat} (hmt : Tryz.prog.underlying mt = some (.map 3 st)) (h : GrpG t k enc b N L w D V) (h0 : 0 ≤ r) (h1 : r < 100000) (hl : N < 1000000)
    (hgr : w.grownBy w1 (V r).ownBlock) (hnew : (V r).ownBlock = some g ∨ w.heap.size ≤ g)
    (ho : OwnR t k enc w1 (b + 1) (.slice (some ⟨g, 0, none⟩) ((L r).length + 1) cap) (L r ++ [y])) :
    GrpG t k enc b (N + 1) (fun id => if id = r then L id ++ [y] else L id) (mapPut Tryz.prog mt b (.int .i64 r) (.slice (some ⟨g, 0, none⟩) ((L r).length + 1) cap) w1)
      (D.put (kI r) (.held (.slice (some ⟨g, 0, none⟩) ((L r).length + 1) cap))) (fun id => if id = r then .slice (some ⟨g, 0, none⟩) ((L r).length + 1) cap else V id) ∧
    w1.grownBy (mapPut Tryz.prog mt b (.int .i64 r) (.slice (some ⟨g, 0, none⟩) ((L r).length + 1) cap) w1) (some b) := by
  obtain ⟨⟨n, hm, hn⟩, hisM, hat, hhas, hkeys, hown, hap⟩ := h
  have hne : some b ≠ (V r).ownBlock := fun e => by have := (World.ownsRow.lt (hown r) b e.symm).1; omega
  have hm1 : OMap Tryz.prog 3 w1 b n D := World.ownsMap.kept hm hgr hne
  have hp := hm1.put keyedInt hmt (by simp only [maxLen]; omega) (keyI h0 h1) (.slice (some ⟨g, 0, none⟩) ((L r).length + 1) cap)
  have hg := (hm1.keysOk.put keyedInt hmt (keyI h0 h1) (.slice (some ⟨g, 0, none⟩) ((L r).length + 1) cap)).2.2
  have hk : WideAt.IsKeyLit (kI r) := trivial
  have hkne : ∀ id, id ≠ r → kI id ≠ kI r := fun id hid e => hid (by injection e)
  have hgb : b < g := by have := (World.ownsRow.lt ho g rfl).1; omega
  refine ⟨⟨⟨n + 1, hp, by omega⟩, ?_, fun id => ?_, fun id => ?_, fun kl hkl => ?_, fun id => ?_, fun id id' hne' => ?_⟩, hg⟩
  · exact hisM.put _ _
  · by_cases e : id = r
    · subst e; rw [if_pos rfl]; exact Maps.atKey_put_same hisM hk _ _
    · rw [if_neg e, Maps.atKey_put_other (hkne id e)]; exact hat id
  · by_cases e : id = r
    · subst e; rw [if_pos rfl, Maps.has_put_same hisM hk]; simp
    · rw [if_neg e, Maps.has_put_other (hkne id e)]; exact hhas id
  · by_cases e : kl = kI r
    · exact ⟨_, e, h0, h1⟩
    · rw [Maps.has_put_other e] at hkl; exact hkeys kl hkl
  · by_cases e : id = r
    · subst e
      rw [if_pos rfl, if_pos rfl]
      exact World.ownsRow.kept ho hg (.inr fun e => by simp [Value.ownBlock] at e; omega)
    · rw [if_neg e, if_neg e]
      have h2 : OwnR t k enc w1 (b + 1) (V id) (L id) := World.ownsRow.kept (hown id) hgr (hap id r e)
      exact World.ownsRow.kept h2 hg (.inr fun e' => by have := (World.ownsRow.lt h2 b e').1; omega)
  · have hfar : ∀ id, id ≠ r → (V id).ownBlock = none ∨ (V id).ownBlock ≠ some g := fun id e => by
      cases hv : (V id).ownBlock with
      | none => exact .inl rfl
      | some q =>
        refine .inr fun e2 => ?_
        have e2' := Option.some.inj e2
        rcases hnew with h3 | h3
        · rcases hap id r e with h4 | h4
          · rw [hv] at h4; cases h4
          · exact h4 (by rw [hv, h3, e2'])
        · have := (World.ownsRow.lt (hown id) q hv).2; omega
    by_cases e : id = r
    · rw [if_pos e, if_neg (fun e2 => hne' (e.trans e2.symm))]
      refine .inr fun e3 => ?_
      rcases hfar id' (fun e2 => hne' (e.trans e2.symm)) with h4 | h4
      · rw [h4] at e3; cases e3
      · exact h4 e3.symm
    · rw [if_neg e]
      by_cases e2 : id' = r
      · rw [if_pos e2]; exact hfar id e
      · rw [if_neg e2]; exact hap id id' hne'

theorem next_grp (w : World) {ops : Array Oper} {rest : List Oper} {o : Oper} {a : Act} {Q : Exit → Act → World → Prop} (hg : o.guard = none) (it : Operand) (hop : o.op = Op.next it false) (b r n cnt : Nat) (D : DataW Value) (V : Int → Value) (left : Lit → Bool)
    (hit : a.eval it = .pointer (some ⟨r, 0, none⟩)) (h : w.ranges Tryz.prog 3 rawE b r n D left cnt)
    (hat : ∀ id, D.atKey (kI id) (.held nilS) = .held (V id)) (hkeys : ∀ kl, Maps.has D kl = true → ∃ id, kl = kI id ∧ 0 ≤ id ∧ id < 100000)
    (hDone : (∀ kl, left kl = false) → wpList Tryz.prog ops Q rest (a.put o.dst (.tuple #[.bool false])) w)
    (hMore : ∀ id w' cnt', left (kI id) = true → Maps.has D (kI id) = true → 0 ≤ id → id < 100000 → w'.ranges Tryz.prog 3 rawE b r n D (fun z => left z && !z.sameKey (kI id)) cnt' → cnt' < cnt → w.grownBy w' (some r) → w'.heap.size = w.heap.size →
      (Instr.entry (.pointer (some ⟨r, 0, none⟩))).run Tryz.prog w' = .ok (.tuple #[.int .i64 id, V id]) w' → wpList Tryz.prog ops Q rest (a.put o.dst (.tuple #[.bool true, .int .i64 id, V id])) w') :
    wpList Tryz.prog ops Q (o :: rest) a w := by
  refine wpList_next_ranges w hg it hop 3 keyedInt rawE (Value.int .i64) id (fun key kl hkey => by obtain ⟨x, rfl, _⟩ := Maps.keyOf_int_inv Tryz.underlying3 hkey; exact ⟨x, rfl⟩) (fun v y _ => ⟨v, rfl⟩) b r n D left cnt hit h (fun _ hl => hDone hl) ?_
  intro x c kl y w' cnt' hkey hl hR hat' hrg hlt hgr hsz hen
  obtain rfl := rawE_any hR
  have hh : Maps.has D kl = true := Maps.has_true_of_atKey hat'
  obtain ⟨id, rfl, h0, h1⟩ := hkeys kl hh
  obtain ⟨x', e1, e2, _⟩ := Maps.keyOf_int_inv Tryz.underlying3 hkey
  cases e1
  cases e2
  have e3 := (hat' (.held nilS)).symm.trans (hat _)
  injection e3 with e3
  subst e3
  exact hMore _ w' cnt' hl hh h0 h1 hrg hlt hgr hsz hen

end Go.Proofs.YtheenlomlmbjaaaGreatDoor

namespace Go.Proofs.YtheenlomlmbjaaaGreatDoor
open Go.RowKit

def orI (x y : Int) : Int := if x ≠ 0 then x else y
set_option maxRecDepth 100000 in
theorem or_any (g : Nat) (x y : Int) (w : World) (h0 : w.cell? ⟨g, 0, none⟩ = some (.int .i64 x)) (h1 : w.cell? ⟨g, 1, none⟩ = some (.int .i64 y)) :
    Calls Tryz.prog 147 #[.slice (some ⟨g, 0, none⟩) 2 2] w fun e w' => e = .returned (.int .i64 (orI x y)) ∧ w = w' := by
  have HE : Hid (∀ z, orI x y = z → orI x y = z) := Lib.hid fun _ h => h
  by_cases hx : x = 0
  · subst hx
    have e : orI 0 y = y := by simp [orI]
    rw [e]
    by_cases hy : y = 0
    · subst hy
      go_enter Tryz.func147, Tryz.ntmps147
      go_wp2_with fail
      refine wp_loop_rounds 3 ?_
      rw [rounds_succ]
      go_wp2_with fail
      rw [rounds_succ]
      go_wp2_with fail
      rw [rounds_succ]
      go_wp2_with fail
      go_ret
      exact ⟨rfl, rfl⟩
    · have hy' : (y == 0) = false := by simpa using hy
      go_enter Tryz.func147, Tryz.ntmps147
      go_wp2_with fail
      refine wp_loop_rounds 3 ?_
      rw [rounds_succ]
      go_wp2_with fail
      rw [rounds_succ]
      go_wp2_with fail
      go_ret
      exact ⟨rfl, rfl⟩
  · have hx' : (x == 0) = false := by simpa using hx
    have e : orI x y = x := by simp [orI, hx]
    rw [e]
    go_enter Tryz.func147, Tryz.ntmps147
    go_wp2_with fail
    refine wp_loop_rounds 3 ?_
    rw [rounds_succ]
    go_wp2_with fail
    go_ret
    exact ⟨rfl, rfl⟩

def cmpRw (x y : Rw) : Int := orI (cmpI x.1 y.1) (cmpI x.2.1 y.2.1)
def rowF : Value := .func (.func 100) #[] #[]

set_option maxRecDepth 100000 in
set_option maxHeartbeats 4000000 in
attribute [local go_sem ↓] Go.wp_at_zero Go.wp_at_succ in
theorem byRow_any (x y : Rw) (w : World) :
    Calls Tryz.prog 100 #[.agg #[.int .i64 x.1, .int .i64 x.2.1, .int .i64 x.2.2], .agg #[.int .i64 y.1, .int .i64 y.2.1, .int .i64 y.2.2]] w fun e w' => e = .returned (.int .i64 (cmpRw x y)) ∧ Below w.heap.size w w' := by
  obtain ⟨x0, x1, x2⟩ := x
  obtain ⟨y0, y1, y2⟩ := y
  have HC := Lib.hid (fun a b w => cmp_any a b w)
  have HE := Lib.hid (show cmpRw (x0, x1, x2) (y0, y1, y2) = orI (cmpI x0 y0) (cmpI x1 y1) from rfl)
  rw [HE.out]
  have HO := Lib.hid (fun g w => or_any g (cmpI x0 y0) (cmpI x1 y1) w)
  have HW := Lib.hid (show Below w.heap.size w ((w.alloc (.cells #[.int .i64 x0, .int .i64 x1, .int .i64 x2] 119)).alloc (.cells #[.int .i64 y0, .int .i64 y1, .int .i64 y2] 119)) from ((Below.refl _ _).alloc (Nat.le_refl _) _).alloc (by simp) _)
  go_enter Tryz.func100, Tryz.ntmps100
  go_wp2_with fail
  go_region_held3 (fun w' => w'.cell? ⟨w.heap.size, 0, none⟩ = some (.int .i64 x0) ∧ w'.cell? ⟨w.heap.size, 1, none⟩ = some (.int .i64 x1) ∧ w'.cell? ⟨w.heap.size + 1, 0, none⟩ = some (.int .i64 y0) ∧ w'.cell? ⟨w.heap.size + 1, 1, none⟩ = some (.int .i64 y1))
    (first | assumption | go_keep)
    (first
      | (go_at_call 111; ((with_reducible refine (HC.out _ _ _).mono ?_); rintro e w2 ⟨rfl, rfl⟩))
      | (go_at_call 147; refine (HO.out _ _ (by simp only [World.cell?_drew]; rw [World.cell?_alloc_at _ _ _ _ (by simp)]; rfl) (by simp only [World.cell?_drew]; rw [World.cell?_alloc_at _ _ _ _ (by simp)]; rfl)).mono ?_; rintro e w2 ⟨rfl, rfl⟩))
  all_goals (go_wp2_with fail; go_ret; exact ⟨rfl, (HW.out.alloc HW.out.size _).drew⟩)

end Go.Proofs.YtheenlomlmbjaaaGreatDoor

namespace Go.Proofs.YtheenlomlmbjaaaGreatDoor

structure OrdC {α : Type} (c : α → α → Int) : Prop where
  trans : ∀ x y z, c x y < 0 → c y z < 0 → c x z < 0
  flip : ∀ x y, 0 < c x y → c y x < 0
  eqL : ∀ x y z, c x y = 0 → c x z < 0 → c y z < 0

abbrev RiseC {α : Type} (c : α → α → Int) (l : List α) : Prop := l.Pairwise fun x y => c x y < 0

theorem mergeF_mem {α : Type} {c : α → α → Int} {a b : List α} {z : α} (h : z ∈ mergeF c a b) : z ∈ a ∨ z ∈ b := by
  fun_induction mergeF c a b with
  | case1 b => exact .inr h
  | case2 x a => exact .inl h
  | case3 x a y b h1 ih =>
    rcases List.mem_cons.1 h with rfl | h
    · exact .inl (List.mem_cons_self ..)
    · rcases ih h with h | h
      · exact .inl (List.mem_cons_of_mem _ h)
      · exact .inr h
  | case4 x a y b h1 h2 ih =>
    rcases List.mem_cons.1 h with rfl | h
    · exact .inr (List.mem_cons_self ..)
    · rcases ih h with h | h
      · exact .inl (List.mem_cons_of_mem _ h)
      · exact .inr (List.mem_cons_of_mem _ h)
  | case5 x a y b h1 h2 ih =>
    rcases List.mem_cons.1 h with rfl | h
    · exact .inr (List.mem_cons_self ..)
    · rcases ih h with h | h
      · exact .inl h
      · exact .inr (List.mem_cons_of_mem _ h)
theorem mergeF_rise {α : Type} {c : α → α → Int} (hc : OrdC c) {a b : List α} (ha : RiseC c a) (hb : RiseC c b) : RiseC c (mergeF c a b) := by
  fun_induction mergeF c a b with
  | case1 b => exact hb
  | case2 x a => exact ha
  | case3 x a y b h1 ih =>
    rw [RiseC, List.pairwise_cons] at ha ⊢
    refine ⟨fun z hz => ?_, ih ha.2 hb⟩
    rcases mergeF_mem hz with hz | hz
    · exact ha.1 z hz
    · rcases List.mem_cons.1 hz with rfl | hz
      · exact h1
      · exact hc.trans _ _ _ h1 ((List.pairwise_cons.1 hb).1 z hz)
  | case4 x a y b h1 h2 ih =>
    have ha' := List.pairwise_cons.1 ha
    have hb' := List.pairwise_cons.1 hb
    rw [RiseC, List.pairwise_cons]
    refine ⟨fun z hz => ?_, ih ha'.2 hb'.2⟩
    rcases mergeF_mem hz with hz | hz
    · exact hc.eqL x y z h2 (ha'.1 z hz)
    · exact hb'.1 z hz
  | case5 x a y b h1 h2 ih =>
    have hb' := List.pairwise_cons.1 hb
    rw [RiseC, List.pairwise_cons]
    refine ⟨fun z hz => ?_, ih ha hb'.2⟩
    have hyx : c y x < 0 := hc.flip x y (by omega)
    rcases mergeF_mem hz with hz | hz
    · rcases List.mem_cons.1 hz with rfl | hz
      · exact hyx
      · exact hc.trans _ _ _ hyx ((List.pairwise_cons.1 ha).1 z hz)
    · exact hb'.1 z hz
theorem mergeF_right {α : Type} {c : α → α → Int} {a b : List α} {z : α} (h : z ∈ b) : z ∈ mergeF c a b := by
  fun_induction mergeF c a b with
  | case1 b => exact h
  | case2 x a => cases h
  | case3 x a y b h1 ih => exact List.mem_cons_of_mem _ (ih h)
  | case4 x a y b h1 h2 ih =>
    rcases List.mem_cons.1 h with rfl | h
    · exact List.mem_cons_self ..
    · exact List.mem_cons_of_mem _ (ih h)
  | case5 x a y b h1 h2 ih =>
    rcases List.mem_cons.1 h with rfl | h
    · exact List.mem_cons_self ..
    · exact List.mem_cons_of_mem _ (ih h)
theorem mergeF_left {α : Type} {c : α → α → Int} {a b : List α} {z : α} (h : z ∈ a) : z ∈ mergeF c a b ∨ ∃ y ∈ b, c z y = 0 := by
  fun_induction mergeF c a b with
  | case1 b => cases h
  | case2 x a => exact .inl h
  | case3 x a y b h1 ih =>
    rcases List.mem_cons.1 h with rfl | h
    · exact .inl (List.mem_cons_self ..)
    · rcases ih h with h | h
      · exact .inl (List.mem_cons_of_mem _ h)
      · exact .inr h
  | case4 x a y b h1 h2 ih =>
    rcases List.mem_cons.1 h with rfl | h
    · exact .inr ⟨y, List.mem_cons_self .., h2⟩
    · rcases ih h with h | ⟨y', h, e⟩
      · exact .inl (List.mem_cons_of_mem _ h)
      · exact .inr ⟨y', List.mem_cons_of_mem _ h, e⟩
  | case5 x a y b h1 h2 ih =>
    rcases ih h with h | ⟨y', h, e⟩
    · exact .inl (List.mem_cons_of_mem _ h)
    · exact .inr ⟨y', List.mem_cons_of_mem _ h, e⟩
theorem cmpI_ord : OrdC cmpI := by
  constructor <;> intros <;> simp only [cmpI] at * <;> omega
theorem cmpRw_lt {x y : Rw} : cmpRw x y < 0 ↔ x.1 < y.1 ∨ x.1 = y.1 ∧ x.2.1 < y.2.1 := by
  simp only [cmpRw, orI, cmpI]; repeat' split
  all_goals omega
theorem cmpRw_eq {x y : Rw} : cmpRw x y = 0 ↔ x.1 = y.1 ∧ x.2.1 = y.2.1 := by
  simp only [cmpRw, orI, cmpI]; repeat' split
  all_goals omega
theorem cmpRw_gt {x y : Rw} : 0 < cmpRw x y ↔ y.1 < x.1 ∨ x.1 = y.1 ∧ y.2.1 < x.2.1 := by
  simp only [cmpRw, orI, cmpI]; repeat' split
  all_goals omega
theorem cmpRw_ord : OrdC cmpRw := by
  constructor
  · intro x y z; simp only [cmpRw_lt]; omega
  · intro x y; simp only [cmpRw_lt, cmpRw_gt]; omega
  · intro x y z; simp only [cmpRw_lt, cmpRw_eq]; omega

abbrev Ser := Int × List Smp
def cmpS {β : Type} (x y : Int × β) : Int := cmpI x.1 y.1
theorem cmpS_ord {β : Type} : OrdC (cmpS (β := β)) := ⟨fun _ _ _ => cmpI_ord.trans _ _ _, fun _ _ => cmpI_ord.flip _ _, fun _ _ _ => cmpI_ord.eqL _ _ _⟩
theorem cmpI_lt {x y : Int} : cmpI x y < 0 ↔ x < y := by simp only [cmpI]; repeat' split
                                                         all_goals omega
theorem cmpI_eq {x y : Int} : cmpI x y = 0 ↔ x = y := by simp only [cmpI]; repeat' split
                                                         all_goals omega
theorem cmpS_lt {β : Type} {x y : Int × β} : cmpS x y < 0 ↔ x.1 < y.1 := cmpI_lt
theorem cmpS_eq {β : Type} {x y : Int × β} : cmpS x y = 0 ↔ x.1 = y.1 := cmpI_eq

def smpOf (R : List Rw) (id : Int) : List Smp := (R.filter fun r => r.2.1 == id).map fun r => (r.1, r.2.2)
def insI (x : Int) : List Int → List Int
  | [] => [x]
  | y :: l => if x < y then x :: y :: l else if x = y then y :: l else y :: insI x l
def idsOf (R : List Rw) : List Int := R.foldr (fun r l => insI r.2.1 l) []
theorem insI_mem {x z : Int} {l : List Int} : z ∈ insI x l ↔ z = x ∨ z ∈ l := by
  induction l with
  | nil => simp [insI]
  | cons y l ih =>
    rw [insI]
    split
    · simp
    · split
      · rename_i h; subst h; simp
      · simp only [List.mem_cons, ih]; constructor
        · rintro (h | h | h) <;> simp [h]
        · rintro (h | h | h) <;> simp [h]
theorem insI_rise {x : Int} {l : List Int} (h : l.Pairwise (· < ·)) : (insI x l).Pairwise (· < ·) := by
  induction l with
  | nil => simp [insI]
  | cons y l ih =>
    have h' := List.pairwise_cons.1 h
    rw [insI]
    split
    · rename_i hx
      refine List.pairwise_cons.2 ⟨fun z hz => ?_, h⟩
      rcases List.mem_cons.1 hz with rfl | hz
      · exact hx
      · have := h'.1 z hz; omega
    · split
      · exact h
      · refine List.pairwise_cons.2 ⟨fun z hz => ?_, ih h'.2⟩
        rcases insI_mem.1 hz with rfl | hz
        · omega
        · exact h'.1 z hz
theorem idsOf_mem {R : List Rw} {id : Int} : id ∈ idsOf R ↔ ∃ r ∈ R, r.2.1 = id := by
  induction R with
  | nil => simp [idsOf]
  | cons r R ih =>
    rw [show idsOf (r :: R) = insI r.2.1 (idsOf R) from rfl, insI_mem, ih]
    simp only [List.mem_cons, exists_eq_or_imp]
    constructor
    · rintro (h | h)
      · exact .inl h.symm
      · exact .inr h
    · rintro (h | h)
      · exact .inl h.symm
      · exact .inr h
theorem idsOf_rise (R : List Rw) : (idsOf R).Pairwise (· < ·) := by
  induction R with
  | nil => simp [idsOf]
  | cons r R ih => exact insI_rise ih
theorem rise_ext {a b : List Int} (ha : a.Pairwise (· < ·)) (hb : b.Pairwise (· < ·)) (h : ∀ z, z ∈ a ↔ z ∈ b) : a = b := by
  induction a generalizing b with
  | nil =>
    cases b with
    | nil => rfl
    | cons y b => exact absurd ((h y).2 (List.mem_cons_self ..)) (by simp)
  | cons x a ih =>
    cases b with
    | nil => exact absurd ((h x).1 (List.mem_cons_self ..)) (by simp)
    | cons y b =>
      have ha' := List.pairwise_cons.1 ha
      have hb' := List.pairwise_cons.1 hb
      have hxy : x = y := by
        rcases List.mem_cons.1 ((h x).1 (List.mem_cons_self ..)) with e | e
        · exact e
        · rcases List.mem_cons.1 ((h y).2 (List.mem_cons_self ..)) with e' | e'
          · exact e'.symm
          · have h1 := hb'.1 x e; have h2 := ha'.1 y e'; omega
      subst hxy
      rw [ih ha'.2 hb'.2]
      intro z
      constructor
      · intro hz
        rcases List.mem_cons.1 ((h z).1 (List.mem_cons_of_mem _ hz)) with e | e
        · subst e; have := ha'.1 z hz; omega
        · exact e
      · intro hz
        rcases List.mem_cons.1 ((h z).2 (List.mem_cons_of_mem _ hz)) with e | e
        · subst e; have := hb'.1 z hz; omega
        · exact e

def POk (p : Smp) : Prop := 0 ≤ p.1 ∧ p.1 < 100000 ∧ 0 ≤ p.2 ∧ p.2 < 1000000
structure SOk (S : List Ser) : Prop where
  rise : RiseC cmpS S
  id : ∀ s ∈ S, 0 ≤ s.1 ∧ s.1 < 200
  one : ∀ s ∈ S, s.2 ≠ []
  rises : ∀ s ∈ S, RiseC cmpS s.2
  ok : ∀ s ∈ S, ∀ p ∈ s.2, POk p
structure PRise (R : List Rw) : Prop where
  rises : ∀ id, RiseC cmpS (smpOf R id)
  ok : ∀ r ∈ R, POk (r.1, r.2.2) ∧ 0 ≤ r.2.1 ∧ r.2.1 < 200
structure ROk (R : List Rw) : Prop where
  rise : RiseC cmpRw R
  ok : ∀ r ∈ R, POk (r.1, r.2.2) ∧ 0 ≤ r.2.1 ∧ r.2.1 < 200
theorem smpOf_mem {R : List Rw} {id : Int} {p : Smp} : p ∈ smpOf R id ↔ (p.1, id, p.2) ∈ R := by
  simp only [smpOf, List.mem_map, List.mem_filter, beq_iff_eq]
  constructor
  · rintro ⟨r, ⟨h1, rfl⟩, rfl⟩; exact h1
  · intro h; exact ⟨_, ⟨h, rfl⟩, rfl⟩
theorem ROk.prise {R : List Rw} (h : ROk R) : PRise R := by
  refine ⟨fun id => ?_, h.ok⟩
  unfold smpOf
  rw [RiseC, List.pairwise_map]
  refine List.Pairwise.imp_of_mem ?_ (h.rise.filter _)
  intro x y hx hy hxy
  have ex : x.2.1 = id := by simpa using (List.mem_filter.1 hx).2
  have ey : y.2.1 = id := by simpa using (List.mem_filter.1 hy).2
  rw [cmpRw_lt] at hxy
  rw [cmpS_lt]
  simp only
  omega
theorem ROk.filter {R : List Rw} (h : ROk R) (p : Rw → Bool) : ROk (R.filter p) := ⟨h.rise.filter _, fun r hr => h.ok r (List.mem_filter.1 hr).1⟩
def rowsS (s : Ser) : List Rw := s.2.map fun p => (p.1, s.1, p.2)
def rowsOf (S : List Ser) : List Rw := S.foldl (fun acc s => mergeF cmpRw acc (rowsS s)) []
def tot (S : List Ser) : Nat := (S.map fun s => s.2.length).sum
theorem tot_append (S T : List Ser) : tot (S ++ T) = tot S + tot T := by
  induction S with
  | nil => simp [tot]
  | cons x S ih =>
    have e1 : tot (x :: S ++ T) = x.2.length + tot (S ++ T) := by simp [tot]
    have e2 : tot (x :: S) = x.2.length + tot S := by simp [tot]
    omega
theorem tot_take (S : List Ser) (k : Nat) : tot (S.take k) ≤ tot S := by
  have e : tot S = tot (S.take k ++ S.drop k) := by rw [List.take_append_drop]
  rw [tot_append] at e
  omega
theorem tot_get {S : List Ser} {s : Ser} (h : s ∈ S) : s.2.length ≤ tot S := by
  induction S with
  | nil => cases h
  | cons x S ih =>
    have e2 : tot (x :: S) = x.2.length + tot S := by simp [tot]
    rcases List.mem_cons.1 h with rfl | h
    · omega
    · have := ih h; omega
theorem rowsS_ok {s : Ser} (h1 : 0 ≤ s.1 ∧ s.1 < 200) (h2 : RiseC cmpS s.2) (h3 : ∀ p ∈ s.2, POk p) : ROk (rowsS s) := by
  refine ⟨?_, fun r hr => ?_⟩
  · unfold rowsS
    rw [RiseC, List.pairwise_map]
    refine h2.imp ?_
    intro x y hxy
    rw [cmpS_lt] at hxy
    rw [cmpRw_lt]
    exact .inl hxy
  · obtain ⟨p, hp, rfl⟩ := List.mem_map.1 hr
    exact ⟨h3 p hp, h1⟩
theorem ROk.merge {a b : List Rw} (ha : ROk a) (hb : ROk b) : ROk (mergeF cmpRw a b) :=
  ⟨mergeF_rise cmpRw_ord ha.rise hb.rise, fun r hr => (mergeF_mem hr).elim (ha.ok r) (hb.ok r)⟩
theorem rowsFold_ok {S : List Ser} {acc : List Rw} (ha : ROk acc) (hS : SOk S) : ROk (S.foldl (fun acc s => mergeF cmpRw acc (rowsS s)) acc) ∧ (S.foldl (fun acc s => mergeF cmpRw acc (rowsS s)) acc).length ≤ acc.length + tot S := by
  induction S generalizing acc with
  | nil => exact ⟨ha, by simp [tot]⟩
  | cons s S ih =>
    have hs : ROk (rowsS s) := rowsS_ok (hS.id s (List.mem_cons_self ..)) (hS.rises s (List.mem_cons_self ..)) (hS.ok s (List.mem_cons_self ..))
    have := ih (ha.merge hs) ⟨(List.pairwise_cons.1 hS.rise).2, fun x hx => hS.id x (List.mem_cons_of_mem _ hx), fun x hx => hS.one x (List.mem_cons_of_mem _ hx), fun x hx => hS.rises x (List.mem_cons_of_mem _ hx), fun x hx => hS.ok x (List.mem_cons_of_mem _ hx)⟩
    refine ⟨this.1, Nat.le_trans this.2 ?_⟩
    have hl := mergeF_len cmpRw acc (rowsS s)
    have e1 : (rowsS s).length = s.2.length := by simp [rowsS]
    have e2 : tot (s :: S) = s.2.length + tot S := by simp [tot]
    omega
theorem rowsOf_ok {S : List Ser} (hS : SOk S) : ROk (rowsOf S) ∧ (rowsOf S).length ≤ tot S := by
  have := rowsFold_ok (acc := []) ⟨List.Pairwise.nil, fun r hr => by cases hr⟩ hS
  rw [List.length_nil, Nat.zero_add] at this
  exact this

def oldOf (l : List Ser) (id : Int) : List Smp := ((l.find? fun s => s.1 == id).map (·.2)).getD []
def moreOf (l : List Ser) (R : List Rw) : List Ser := (idsOf R).map fun id => (id, mergeF cmpS (oldOf l id) (smpOf R id))
def putL (l : List Ser) (R : List Rw) : List Ser := mergeF cmpS l (moreOf l R)
theorem oldOf_mem {l : List Ser} {id : Int} : oldOf l id = [] ∨ ∃ s ∈ l, s.1 = id ∧ oldOf l id = s.2 := by
  unfold oldOf
  cases h : l.find? fun s => s.1 == id with
  | none => exact .inl rfl
  | some s => exact .inr ⟨s, List.mem_of_find?_eq_some h, by simpa using List.find?_some h, rfl⟩
theorem moreOf_ok {l : List Ser} {R : List Rw} (hl : SOk l) (hR : PRise R) : SOk (moreOf l R) := by
  have hid : ∀ s ∈ moreOf l R, ∃ id, id ∈ idsOf R ∧ s = (id, mergeF cmpS (oldOf l id) (smpOf R id)) := by
    intro s hs
    obtain ⟨id, h1, rfl⟩ := List.mem_map.1 hs
    exact ⟨id, h1, rfl⟩
  refine ⟨?_, ?_, ?_, ?_, ?_⟩
  · unfold moreOf
    rw [RiseC, List.pairwise_map]
    exact (idsOf_rise R).imp fun h => cmpS_lt.2 h
  · intro s hs
    obtain ⟨id, h1, rfl⟩ := hid s hs
    obtain ⟨r, hr, rfl⟩ := idsOf_mem.1 h1
    exact (hR.ok r hr).2
  · intro s hs e
    obtain ⟨id, h1, rfl⟩ := hid s hs
    obtain ⟨r, hr, rfl⟩ := idsOf_mem.1 h1
    have : (r.1, r.2.2) ∈ mergeF cmpS (oldOf l r.2.1) (smpOf R r.2.1) := mergeF_right (smpOf_mem.2 hr)
    simp only at e
    rw [e] at this
    cases this
  · intro s hs
    obtain ⟨id, h1, rfl⟩ := hid s hs
    refine mergeF_rise cmpS_ord ?_ (hR.rises id)
    rcases oldOf_mem (l := l) (id := id) with e | ⟨s, hs, _, e⟩
    · rw [e]; exact List.Pairwise.nil
    · rw [e]; exact hl.rises s hs
  · intro s hs p hp
    obtain ⟨id, h1, rfl⟩ := hid s hs
    rcases mergeF_mem hp with hp | hp
    · rcases oldOf_mem (l := l) (id := id) with e | ⟨s, hs, _, e⟩
      · rw [e] at hp; cases hp
      · rw [e] at hp; exact hl.ok s hs p hp
    · exact (hR.ok _ (smpOf_mem.1 hp)).1
theorem SOk.merge {a b : List Ser} (ha : SOk a) (hb : SOk b) : SOk (mergeF cmpS a b) :=
  ⟨mergeF_rise cmpS_ord ha.rise hb.rise, fun s hs => (mergeF_mem hs).elim (ha.id s) (hb.id s), fun s hs => (mergeF_mem hs).elim (ha.one s) (hb.one s), fun s hs => (mergeF_mem hs).elim (ha.rises s) (hb.rises s), fun s hs => (mergeF_mem hs).elim (ha.ok s) (hb.ok s)⟩
theorem putL_ok {l : List Ser} {R : List Rw} (hl : SOk l) (hR : PRise R) : SOk (putL l R) := hl.merge (moreOf_ok hl hR)
theorem putL_ids {l : List Ser} {R : List Rw} {id : Int} : id ∈ (putL l R).map (·.1) ↔ id ∈ l.map (·.1) ∨ id ∈ idsOf R := by
  have hm : id ∈ (moreOf l R).map (·.1) ↔ id ∈ idsOf R := by unfold moreOf; simp [Function.comp_def]
  rw [← hm]
  unfold putL
  simp only [List.mem_map]
  constructor
  · rintro ⟨s, hs, rfl⟩
    rcases mergeF_mem hs with h | h
    · exact .inl ⟨s, h, rfl⟩
    · exact .inr ⟨s, h, rfl⟩
  · rintro (⟨s, hs, rfl⟩ | ⟨s, hs, rfl⟩)
    · rcases mergeF_left (c := cmpS) (b := moreOf l R) hs with h | ⟨y, h, e⟩
      · exact ⟨s, h, rfl⟩
      · exact ⟨y, mergeF_right h, (cmpS_eq.1 e).symm⟩
    · exact ⟨s, mergeF_right hs, rfl⟩

theorem sum_zero (J : List Int) : (J.map fun _ => (0 : Nat)).sum = 0 := by
  induction J with
  | nil => rfl
  | cons j J ih => rw [List.map_cons, List.sum_cons, ih]
theorem sum_le_of (I : List Int) (hI : I.Nodup) (R : List Rw) : (I.map fun id => (smpOf R id).length).sum ≤ R.length := by
  induction R with
  | nil => 
    have : (I.map fun id => (smpOf [] id).length) = I.map fun _ => 0 := List.map_congr_left fun id _ => rfl
    rw [this, sum_zero]
    exact Nat.zero_le _
  | cons r R ih =>
    have h1 : ∀ id, (smpOf (r :: R) id).length = (if r.2.1 = id then 1 else 0) + (smpOf R id).length := by
      intro id
      unfold smpOf
      rw [List.filter_cons]
      by_cases h : r.2.1 = id
      · simp [h]; omega
      · simp [h]
    have h2 : ∀ J : List Int, (J.map fun id => (smpOf (r :: R) id).length).sum = (J.map fun id => if r.2.1 = id then 1 else 0).sum + (J.map fun id => (smpOf R id).length).sum := by
      intro J
      induction J with
      | nil => rfl
      | cons j J ihJ => simp only [List.map_cons, List.sum_cons]; rw [ihJ, h1]; omega
    have h3 : ∀ J : List Int, J.Nodup → (J.map fun id => if r.2.1 = id then 1 else 0).sum ≤ 1 := by
      intro J hJ
      induction J with
      | nil => simp
      | cons j J ihJ =>
        have hJ' := List.nodup_cons.1 hJ
        simp only [List.map_cons, List.sum_cons]
        by_cases h : r.2.1 = j
        · have h0 : (J.map fun id => if r.2.1 = id then 1 else 0) = J.map fun _ => 0 := List.map_congr_left fun id hid => by
            rw [if_neg]; intro e; exact hJ'.1 (by rw [← h, e]; exact hid)
          rw [if_pos h, h0, sum_zero]; omega
        · rw [if_neg h]; have := ihJ hJ'.2; omega
    rw [h2, List.length_cons]
    have := h3 I hI
    omega
theorem rise_nodup {l : List Int} (h : l.Pairwise (· < ·)) : l.Nodup := h.imp fun h => by omega
theorem moreOf_nil (R : List Rw) : moreOf [] R = (idsOf R).map fun id => (id, smpOf R id) := by
  unfold moreOf
  exact List.map_congr_left fun id _ => by rw [show oldOf [] id = [] from rfl, mergeF_nil]
theorem putL_nil (R : List Rw) : putL [] R = (idsOf R).map fun id => (id, smpOf R id) := by
  unfold putL
  rw [mergeF_nil, moreOf_nil]
theorem putL_tot (R : List Rw) : tot (putL [] R) ≤ R.length := by
  rw [putL_nil]
  unfold tot
  rw [List.map_map]
  exact sum_le_of _ (rise_nodup (idsOf_rise R)) R
theorem SOk.nil : SOk [] := ⟨List.Pairwise.nil, (fun s h => by cases h), (fun s h => by cases h), (fun s h => by cases h), (fun s h => by cases h)⟩
theorem SOk.idsRise {S : List Ser} (h : SOk S) : (S.map (·.1)).Pairwise (· < ·) := by
  rw [List.pairwise_map]
  exact h.rise.imp fun h => cmpS_lt.1 h
end Go.Proofs.YtheenlomlmbjaaaGreatDoor

namespace Go.Proofs.YtheenlomlmbjaaaGreatDoor
open Go.RowKit

def RowsV (w : World) (v : Value) (l : List Rw) : Prop :=
  ∃ a cap, v = .slice a l.length cap ∧ l.length ≤ cap ∧ cap ≤ 9223372036854775807 ∧ (l ≠ [] → ∃ b off, a = some ⟨b, off, none⟩ ∧ b < w.heap.size ∧ ∀ i, i < l.length →
    w.cell? ⟨b, off + i * 3, none⟩ = some (.int .i64 (l.getD i (0, 0, 0)).1) ∧ w.cell? ⟨b, off + i * 3 + 1, none⟩ = some (.int .i64 (l.getD i (0, 0, 0)).2.1) ∧ w.cell? ⟨b, off + i * 3 + 2, none⟩ = some (.int .i64 (l.getD i (0, 0, 0)).2.2))
theorem RowsV.below {w w' : World} {v : Value} {l : List Rw} (h : RowsV w v l) (hb : Below w.heap.size w w') : RowsV w' v l := by
  obtain ⟨a, cap, hv, h1, h2, h3⟩ := h
  refine ⟨a, cap, hv, h1, h2, fun hx => ?_⟩
  obtain ⟨b, off, ha, hlt, hc⟩ := h3 hx
  exact ⟨b, off, ha, Nat.lt_of_lt_of_le hlt hb.size, fun i hi => ⟨(hb.cell (p := ⟨b, off + i * 3, none⟩) hlt).trans (hc i hi).1, (hb.cell (p := ⟨b, off + i * 3 + 1, none⟩) hlt).trans (hc i hi).2.1, (hb.cell (p := ⟨b, off + i * 3 + 2, none⟩) hlt).trans (hc i hi).2.2⟩⟩
theorem RowsV.at_ {w : World} {a : Option Addr} {n cap : Nat} {l : List Rw} (h : RowsV w (.slice a n cap) l) {i : Nat} (hi : i < l.length) :
    ∃ b off, a = some ⟨b, off, none⟩ ∧ b < w.heap.size ∧ w.cell? ⟨b, off + i * 3, none⟩ = some (.int .i64 (l.getD i (0, 0, 0)).1) ∧ w.cell? ⟨b, off + i * 3 + 1, none⟩ = some (.int .i64 (l.getD i (0, 0, 0)).2.1) ∧ w.cell? ⟨b, off + i * 3 + 2, none⟩ = some (.int .i64 (l.getD i (0, 0, 0)).2.2) := by
  obtain ⟨a', c, hv, h1, h2, h3⟩ := h
  obtain ⟨b, off, hb, hlt, hc⟩ := h3 (by rintro rfl; simp at hi)
  simp only [Value.slice.injEq] at hv
  exact ⟨b, off, by rw [hv.1, hb], hlt, hc i hi⟩
end Go.Proofs.YtheenlomlmbjaaaGreatDoor

namespace Go.Proofs.YtheenlomlmbjaaaGreatDoor
open Go.RowKit

set_option maxRecDepth 100000 in
theorem bitsLen_any (x : Int) (w : World) (h0 : 0 ≤ x) (h1 : x ≤ 1000) :
    Calls Tryz.prog 183 #[.int .u64 x] w fun e w' => (∃ k : Int, e = .returned (.int .i64 k)) ∧ w' = w := by
  have HL := Lib.hid (bitsLen64_any x w h0 (by omega))
  have hw : IntKind.u64.wrap x = x := by rw [IntKind.wrap_u64]; omega
  go_enter Tryz.func183, Tryz.ntmps183
  go_wp2_with fail
  refine HL.out.mono ?_
  rintro e w' ⟨rfl, rfl⟩
  go_wp2_with fail
  go_ret
  exact ⟨⟨_, rfl⟩, rfl⟩

set_option maxRecDepth 100000 in
theorem insSer_any (a : Option Addr) (n c : Nat) (f : Value) (w : World) (hn : n ≤ 1) :
    Calls Tryz.prog 241 #[.slice a n c, .int .i64 0, .int .i64 n, f] w fun e w' => e = .returned (.tuple #[]) ∧ w = w' := by
  go_enter Tryz.func241, Tryz.ntmps241
  go_wp2_with fail
  refine wp_loop_rounds 1 ?_
  rw [rounds_succ]
  go_wp2_with fail
  go_end0
  exact ⟨rfl, rfl⟩

set_option maxRecDepth 100000 in
set_option maxHeartbeats 2000000 in
theorem pdqSer_any (a : Option Addr) (n c : Nat) (k : Int) (f : Value) (w : World) (hn : n ≤ 1) :
    Calls Tryz.prog 182 #[.slice a n c, .int .i64 0, .int .i64 n, .int .i64 k, f] w fun e w' => e = .returned (.tuple #[]) ∧ w = w' := by
  go_enter Tryz.func182, Tryz.ntmps182
  go_wp2_with fail
  refine wp_loop_rounds 1 ?_
  rw [rounds_succ]
  go_wp2_with fail
  refine (insSer_any a n c f _ hn).mono ?_
  rintro e w' ⟨rfl, rfl⟩
  go_wp2_with fail
  refine bodyPost_ret (results_none rfl _ _ _) rfl ?_
  exact ⟨rfl, rfl⟩

set_option maxRecDepth 100000 in
theorem sortSer_any (a : Option Addr) (n c : Nat) (f : Value) (w : World) (hn : n ≤ 1) :
    Calls Tryz.prog 112 #[.slice a n c, f] w fun e w' => e = .returned (.tuple #[]) ∧ w = w' := by
  have hw : IntKind.u64.wrap (n : Int) = n := by rw [IntKind.wrap_u64]; omega
  go_enter Tryz.func112, Tryz.ntmps112
  go_wp2_with fail
  refine (bitsLen_any n _ (by omega) (by omega)).mono ?_
  rintro e w' ⟨⟨k, rfl⟩, rfl⟩
  go_wp2_with fail
  refine (pdqSer_any a n c k f _ hn).mono ?_
  rintro e w' ⟨rfl, rfl⟩
  go_wp2_with fail
  go_end0
  exact ⟨rfl, rfl⟩

end Go.Proofs.YtheenlomlmbjaaaGreatDoor

namespace Go.Proofs.YtheenlomlmbjaaaGreatDoor
open Go.RowKit

section
variable {α : Type} {k : Nat} {enc : α → List Value} {w w' : World}
theorem RowG.at_ {a : Option Addr} {n cap : Nat} {l : List α} (h : RowG k enc w (.slice a n cap) l) (hk : ∀ x, (enc x).length = k) (d : α) {i : Nat} (hi : i < l.length) :
    ∃ b off, a = some ⟨b, off, none⟩ ∧ b < w.heap.size ∧ ∀ j, j < k → w.cell? ⟨b, off + i * k + j, none⟩ = (enc (l.getD i d))[j]? := by
  obtain ⟨a', c, hv, h1, h2, h3, h4⟩ := h
  obtain ⟨b, off, hb, hlt, hc⟩ := h4 (by rintro rfl; simp at hi)
  simp only [Value.slice.injEq] at hv
  refine ⟨b, off, by rw [hv.1, hb], hlt, fun j hj => ?_⟩
  have hf := flat_at hk d l i j hi hj
  have hx : j < (enc (l.getD i d)).length := by rw [hk]; exact hj
  rw [Nat.add_assoc, hc (i * k + j) _ (hf.trans (List.getElem?_eq_getElem hx)), List.getElem?_eq_getElem hx]
theorem RowG.len {a : Option Addr} {n cap : Nat} {l : List α} (h : RowG k enc w (.slice a n cap) l) : n = l.length ∧ l.length ≤ cap ∧ cap ≤ 9223372036854775807 := by
  obtain ⟨a', c, hv, h1, h2, _⟩ := h
  simp only [Value.slice.injEq] at hv
  obtain ⟨_, rfl, rfl⟩ := hv
  exact ⟨rfl, h1, h2⟩
end
theorem RowG.samples {w : World} {v : Value} {l : List Smp} (h : RowG 2 encS w v l) : Samples w v l := by
  obtain ⟨a, cap, rfl, h1, h2, h3, h4⟩ := h
  refine ⟨a, cap, rfl, h1, h2, fun hx => ?_⟩
  obtain ⟨b, off, ha, hlt, hc⟩ := h4 hx
  refine ⟨b, off, ha, hlt, fun i hi => ?_⟩
  have hr : RowG 2 encS w (.slice a l.length cap) l := ⟨a, cap, rfl, h1, h2, h3, h4⟩
  obtain ⟨b', off', ha', _, hq⟩ := hr.at_ (fun _ => rfl) (0, 0) hi
  rw [ha] at ha'
  simp only [Option.some.injEq, Addr.mk.injEq, and_true] at ha'
  obtain ⟨rfl, rfl⟩ := ha'
  exact ⟨hq 0 (by omega), hq 1 (by omega)⟩
theorem RowG.rowsV {w : World} {v : Value} {l : List Rw} (h : RowG 3 encRw w v l) : RowsV w v l := by
  obtain ⟨a, cap, rfl, h1, h2, h3, h4⟩ := h
  refine ⟨a, cap, rfl, h1, h2, fun hx => ?_⟩
  obtain ⟨b, off, ha, hlt, hc⟩ := h4 hx
  refine ⟨b, off, ha, hlt, fun i hi => ?_⟩
  have hr : RowG 3 encRw w (.slice a l.length cap) l := ⟨a, cap, rfl, h1, h2, h3, h4⟩
  obtain ⟨b', off', ha', _, hq⟩ := hr.at_ (fun _ => rfl) (0, 0, 0) hi
  rw [ha] at ha'
  simp only [Option.some.injEq, Addr.mk.injEq, and_true] at ha'
  obtain ⟨rfl, rfl⟩ := ha'
  exact ⟨hq 0 (by omega), hq 1 (by omega), hq 2 (by omega)⟩

abbrev SlV := Option Addr × Nat × Nat
def slV (x : SlV) : Value := .slice x.1 x.2.1 x.2.2
abbrev Sv := Int × SlV
def encSv (x : Sv) : List Value := [.int .i64 x.1, .slice x.2.1 x.2.2.1 x.2.2.2]
abbrev sv0 : Sv := (0, none, 0, 0)
theorem infoSer : (Tryz.prog.info? 49).map (fun i => (i.zero, i.size, i.bytes)) = some (some (.agg #[.int .i64 0, .slice none 0 0]), 2, 32) := by kernel_rfl
theorem tySer : ETy 42 49 2 32 encSv :=
  ⟨Tryz.underlying42, ⟨_, infoSer, rfl⟩, by decide, by decide, fun _ => rfl, fun x u hu => by simp [encSv] at hu; rcases hu with rfl | rfl <;> rfl⟩
abbrev SerZ := Int × SlV × List Smp
def zRaw (z : SerZ) : Sv := (z.1, z.2.1)
def zSer (z : SerZ) : Ser := (z.1, z.2.2)
def SerV (w : World) (v : Value) (S : List Ser) : Prop :=
  ∃ Z : List SerZ, S = Z.map zSer ∧ RowG 2 encSv w v (Z.map zRaw) ∧ ∀ z ∈ Z, RowG 2 encS w (slV z.2.1) z.2.2
theorem SerV.below {w w' : World} {v : Value} {S : List Ser} (h : SerV w v S) (hb : Below w.heap.size w w') : SerV w' v S := by
  obtain ⟨Z, h1, h2, h3⟩ := h
  exact ⟨Z, h1, h2.below hb, fun z hz => (h3 z hz).below hb⟩
theorem SerV.shape {w : World} {v : Value} {S : List Ser} (h : SerV w v S) : ∃ a cap, v = .slice a S.length cap ∧ S.length ≤ cap ∧ cap ≤ 9223372036854775807 := by
  obtain ⟨Z, rfl, ⟨a, cap, hv, h1, h2, _⟩, _⟩ := h
  rw [List.length_map] at hv h1
  exact ⟨a, cap, by rw [List.length_map]; exact hv, by rw [List.length_map]; exact h1, h2⟩
theorem getD_map {α β : Type} (f : α → β) (l : List α) (i : Nat) (d : α) (d' : β) (h : i < l.length) : (l.map f).getD i d' = f (l.getD i d) := by
  simp [List.getD_eq_getElem?_getD, List.getElem?_map, List.getElem?_eq_getElem h]
theorem getD_mem' {α : Type} {l : List α} {i : Nat} (d : α) (h : i < l.length) : l.getD i d ∈ l := by
  rw [List.getD_eq_getElem?_getD, List.getElem?_eq_getElem h]; exact List.getElem_mem ..
theorem SerV.at_ {w : World} {a : Option Addr} {n cap : Nat} {S : List Ser} (h : SerV w (.slice a n cap) S) {i : Nat} (hi : i < S.length) :
    ∃ b off vs, a = some ⟨b, off, none⟩ ∧ b < w.heap.size ∧ w.cell? ⟨b, off + i * 2, none⟩ = some (.int .i64 (S.getD i (0, [])).1) ∧ w.cell? ⟨b, off + i * 2 + 1, none⟩ = some vs ∧ RowG 2 encS w vs (S.getD i (0, [])).2 := by
  obtain ⟨Z, rfl, h1, h3⟩ := h
  rw [List.length_map] at hi
  obtain ⟨b, off, ha, hlt, hc⟩ := h1.at_ (fun _ => rfl) sv0 (i := i) (by rw [List.length_map]; exact hi)
  have e1 := getD_map zRaw Z i (0, (none, 0, 0), []) sv0 hi
  have e2 := getD_map zSer Z i (0, (none, 0, 0), []) (0, []) hi
  have hz := h3 _ (getD_mem' (0, (none, 0, 0), []) hi)
  rw [e1] at hc
  rw [e2]
  exact ⟨b, off, _, ha, hlt, hc 0 (by omega), hc 1 (by omega), hz⟩

def idF : Value := .func (.func 110) #[] #[]
set_option maxRecDepth 100000 in
theorem byID_any (a c : Int) (p q : Option Addr) (n m cn cm : Nat) (w : World) :
    Calls Tryz.prog 110 #[.agg #[.int .i64 a, .slice p n cn], .agg #[.int .i64 c, .slice q m cm]] w fun e w' => e = .returned (.int .i64 (cmpI a c)) ∧ Below w.heap.size w w' := by
  go_enter Tryz.func110, Tryz.ntmps110
  go_wp2_with fail
  refine (cmp_any a c _).mono ?_
  rintro e w1 ⟨rfl, rfl⟩
  go_wp2_with fail
  go_ret
  exact ⟨rfl, ((Below.refl _ _).alloc (Nat.le_refl _) _).alloc (by simp) _⟩

theorem rise_step {R : List Rw} (h : RiseC cmpRw R) {i : Nat} (h1 : i + 1 < R.length) : cmpRw (R.getD i (0, 0, 0)) (R.getD (i + 1) (0, 0, 0)) < 0 := by
  have := List.pairwise_iff_getElem.1 h i (i + 1) (by omega) h1 (by omega)
  simpa [List.getD_eq_getElem?_getD, List.getElem?_eq_getElem h1, List.getElem?_eq_getElem (show i < R.length by omega)] using this

set_option maxRecDepth 100000 in
set_option maxHeartbeats 2000000 in
theorem rightG_any (u : Value) (R : List Rw) (w : World) (hu : RowG 3 encRw w u R) (hR : RiseC cmpRw R) (hl : R.length ≤ 100000) :
    Calls Tryz.prog 187 #[u] w fun e w' => e = .returned (.bool true) ∧ Below w.heap.size w w' := by
  have HU := Lib.hid hu.rowsV
  obtain ⟨n, hn⟩ : ∃ n, n = R.length := ⟨_, rfl⟩
  obtain ⟨a, cap, rfl, hc, hm⟩ : ∃ a cap, u = .slice a n cap ∧ n ≤ cap ∧ cap ≤ 9223372036854775807 := by
    obtain ⟨a, cap, h1, h2, h3, _⟩ := hu
    rw [← hn] at h1 h2
    exact ⟨a, cap, h1, h2, h3⟩
  have HN := Lib.hid hn
  have HR := Lib.hid hR
  have hn1 : n ≤ 100000 := by omega
  clear hu hn hR hl
  go_enter Tryz.func187, Tryz.ntmps187
  go_wp2_with fail
  go_loopw [8] (fun x wr => ∃ k : Nat, x = .int .i64 k ∧ k ≤ n ∧ Below w.heap.size w wr) (fun x wr => n - (intOf x).toNat)
  case atStart => exact ⟨0, rfl, Nat.zero_le _, Below.refl _ _⟩
  case round =>
    obtain ⟨k, rfl, hk, hbl⟩ := hrel
    have HB := Lib.hid hbl
    have HU1 := Lib.hid (HU.out.below hbl)
    clear hbl
    by_cases hlt : k < n
    · obtain ⟨b, off, rfl, hbs, c0, c1, c2⟩ := HU1.out.at_ (i := k) (by rw [← HN.out]; exact hlt)
      by_cases hk0 : k = 0
      · subst hk0
        simp only [Nat.zero_mul, Nat.add_zero, Int.natCast_zero] at c0 c1 c2
        simp only [Int.natCast_zero]
        generalize (R.getD 0 (0, 0, 0)).1 = x0 at *
        generalize (R.getD 0 (0, 0, 0)).2.1 = x1 at *
        generalize (R.getD 0 (0, 0, 0)).2.2 = x2 at *
        go_wp2_with fail
        go_roundw
        case rel => exact ⟨1, rfl, by omega, HB.out.alloc HB.out.size _⟩
        case measure => simp [intOf]; omega
      · obtain ⟨j, rfl⟩ : ∃ j, k = j + 1 := ⟨k - 1, by omega⟩
        obtain ⟨b', off', hb', -, d0, d1, d2⟩ := HU1.out.at_ (i := j) (by rw [← HN.out]; omega)
        simp only [Option.some.injEq, Addr.mk.injEq, and_true] at hb'
        obtain ⟨rfl, rfl⟩ := hb'
        have hlt2 := cmpRw_lt.1 (rise_step HR.out (i := j) (by rw [← HN.out]; exact hlt))
        have hkm : (((j + 1 : Nat) : Int) - 1) = (j : Int) := by omega
        have hk0' : ¬ ((j + 1 : Nat) : Int) = 0 := by omega
        generalize (R.getD (j + 1) (0, 0, 0)).1 = x0 at *
        generalize (R.getD (j + 1) (0, 0, 0)).2.1 = x1 at *
        generalize (R.getD (j + 1) (0, 0, 0)).2.2 = x2 at *
        generalize (R.getD j (0, 0, 0)).1 = y0 at *
        generalize (R.getD j (0, 0, 0)).2.1 = y1 at *
        generalize (R.getD j (0, 0, 0)).2.2 = y2 at *
        obtain ⟨q, hq⟩ : ∃ q, q = j + 1 := ⟨_, rfl⟩
        rw [← hq] at c0 c1 c2 hlt hk hkm hk0' ⊢
        have hjq : j < q := by omega
        have HQ := Lib.hid hq
        clear hq hk0
        rcases hlt2 with h | ⟨rfl, h⟩
        · go_wp2_with fail
          go_roundw
          case rel => exact ⟨q + 1, by go_num, by omega, (HB.out.alloc HB.out.size _).alloc (by have := HB.out.size; simp; omega) _⟩
          case measure => simp [intOf]; omega
        · go_wp2_with fail
          go_roundw
          case rel => exact ⟨q + 1, by go_num, by omega, (HB.out.alloc HB.out.size _).alloc (by have := HB.out.size; simp; omega) _⟩
          case measure => simp [intOf]; omega
    · have hke : n = k := by omega
      subst hke
      go_wp2_with fail
      go_ret
      exact ⟨rfl, HB.out⟩

end Go.Proofs.YtheenlomlmbjaaaGreatDoor
