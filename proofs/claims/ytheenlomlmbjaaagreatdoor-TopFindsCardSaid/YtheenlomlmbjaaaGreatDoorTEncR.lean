/-
  delta.numbers: its function value hands out how the samples go on.
-/
import Derived.RangeFuncNested
import Derived.RangeFuncBound
import Derived.RangeFuncCalls
import Derived.RangeFuncLeaves
import Derived.Shelf.Abstract
import Derived.Shelf.RegionOpen
import Derived.OwnWalkIn
import Derived.TacticsInMore
import Derived.LoopNIn
import Derived.LoopIn
import Derived.Sort.QuietIn
import Derived.Test.YtheenlomlmbjaaaGreatDoorTSmp
import Derived.Deep.DrawnRows
import Derived.Great.BuildSlice
set_option linter.unusedSimpArgs false
set_option linter.unusedVariables false
namespace Go.Proofs.YtheenlomlmbjaaaGreatDoor
open Go.RowKit Go.Shelf

attribute [local go_sem] Oper.semAt_some

def ButX (N : Nat) (X : Nat → Prop) (A B : World) : Prop := A.heap.size ≤ B.heap.size ∧ ∀ k, k < N → ¬ X k → k < A.heap.size → B.heap[k]? = A.heap[k]?
theorem ButX.refl (N : Nat) (X : Nat → Prop) (A : World) : ButX N X A A := ⟨Nat.le_refl _, fun _ _ _ _ => rfl⟩
theorem ButX.trans {N : Nat} {X : Nat → Prop} {A B C : World} (h : ButX N X A B) (k : ButX N X B C) : ButX N X A C :=
  ⟨Nat.le_trans h.1 k.1, fun i h1 h2 h3 => (k.2 i h1 h2 (Nat.lt_of_lt_of_le h3 h.1)).trans (h.2 i h1 h2 h3)⟩
theorem ButX.below {N n : Nat} {X : Nat → Prop} {A B : World} (h : Below n A B) (hn : ∀ k, k < N → ¬ X k → k < A.heap.size → k < n) : ButX N X A B := ⟨h.size, fun k h1 h2 h3 => h.block k (hn k h1 h2 h3)⟩
theorem ButX.own {N : Nat} {X : Nat → Prop} {A B : World} (h : Below A.heap.size A B) : ButX N X A B := ButX.below h fun _ _ _ h => h
theorem ButX.putObj {N : Nat} {X : Nat → Prop} {w : World} (hN : N ≤ w.heap.size) (W : World) (l : Nat) (o o' : Obj) (hl : w.heap.size ≤ l) (h : W.heap[l]? = some o) (_ : o.isCells = false) (_ : o.isWalk = false) : ButX N X W (W.putObj l o') :=
  ⟨(grownBy_putObj' W l o').size, fun k h1 _ h3 => (grownBy_putObj' W l o').block k h3 (fun e => by cases e; omega)⟩
theorem below_grown {A B : World} (h : Below A.heap.size A B) : A.grownBy B none := ⟨h.os, h.tape, h.output, h.size, fun k hk _ => h.block k hk⟩
theorem ButX.cell {N : Nat} {X : Nat → Prop} {A B : World} (h : ButX N X A B) {b j : Nat} {v : Value} (hN : b < N) (hne : ¬ X b) (hc : A.cell? ⟨b, j, none⟩ = some v) : B.cell? ⟨b, j, none⟩ = some v := by
  rw [World.cell?_of_block (a := ⟨b, j, none⟩) (h.2 b hN hne (World.block_lt_of_cell? A _ hc))]; exact hc
theorem Samples.but {N : Nat} {X : Nat → Prop} {A B : World} {a : Option Addr} {n cap : Nat} {l : List Smp} (h : Samples A (.slice a n cap) l) (hk : ButX N X A B) (ha : l ≠ [] → ∀ b off, a = some ⟨b, off, none⟩ → b < N ∧ ¬ X b) : Samples B (.slice a n cap) l := by
  obtain ⟨a', c, hv, h1, h2, h3⟩ := h
  refine ⟨a', c, hv, h1, h2, fun hx => ?_⟩
  obtain ⟨b, off, hb, hlt, hc⟩ := h3 hx
  simp only [Value.slice.injEq] at hv
  obtain ⟨h4, h5⟩ := ha hx b off (by rw [hv.1, hb])
  exact ⟨b, off, hb, Nat.lt_of_lt_of_le hlt hk.1, fun i hi => ⟨hk.cell h4 h5 (hc i hi).1, hk.cell h4 h5 (hc i hi).2⟩⟩

def pr (st k : Nat) : Nat × Nat := (if k = 0 then 2 * st else 0, 0)
set_option maxRecDepth 100000 in
theorem numbers_any (a : Option Addr) (n cap : Nat) (w : World) :
    Calls Tryz.prog 301 #[.slice a n cap] w fun e w' =>
      e = .returned (.func (.func 332) #[] #[.pointer (some ⟨w.heap.size, 0, none⟩)]) ∧ w' = w.alloc (.cells #[.slice a n cap] 47) := by
  go_enter Tryz.func301, Tryz.ntmps301
  go_wp2_with fail
  go_ret
  exact ⟨rfl, rfl⟩

end Go.Proofs.YtheenlomlmbjaaaGreatDoor

namespace Go.Proofs.YtheenlomlmbjaaaGreatDoor
open Go.RowKit Go.Shelf

def bitsE (a b : Nat) (l : List (Nat × Nat)) : List Bool := l.flatMap fun p => riceB p.1 a ++ riceB p.2 b
def encN (x : Nat) : List Value := [.int .u64 x]
theorem infoU64 : (Tryz.prog.info? 62).map (fun i => (i.zero, i.size, i.bytes)) = some (some (.int .u64 0), 1, 8) := by kernel_rfl
theorem OwnR.nums {t : Nat} {w : World} {base : Nat} {v : Value} {l : List Nat} (h : OwnR t 1 encN w base v l) : Nums w v l := by
  obtain ⟨a, cap, hv, h1, h2, h3⟩ := OwnR.open_ (enc := encN) (k := 1) (fun _ => rfl) 0 h
  refine ⟨a, cap, hv, h1, h2, fun hx => ?_⟩
  obtain ⟨g, ha, _, hlt, hc⟩ := h3 (List.length_pos_iff.2 hx)
  refine ⟨g, 0, ha, hlt, fun i hi => ?_⟩
  have := hc i hi 0 (by omega)
  rw [Nat.mul_one, Nat.add_zero] at this
  rw [Nat.zero_add]; exact this

theorem step_app_in {F : Fence} {n : Nat} (w : World) {ops : Array Oper} {o : Oper} {a : Act} {K : Act → World → Prop} {Q : Exit → Act → World → Prop} {E : Prop} (hgd : o.guard = none) (s x : Operand)
    (ho : o.op = .call { callee := .builtin .append, args := #[s, x], argTypes := #[404, 404] })
    (base : Nat) (v : Value) (l : List Nat) (y : Nat) (g : Nat) (hs : a.eval s = v) (hx : a.eval x = .slice (some ⟨g, 0, none⟩) 1 1)
    (hnew : w.heap[g]? = some (.cells #[.int .u64 y] 62 (0, 0))) (hown : OwnR 62 1 encN w base v l) (hbase : base ≤ w.heap.size) (hlen : l.length ≤ 1000000000)
    (h : ∀ g' cap w', OwnR 62 1 encN w' base (.slice (some ⟨g', 0, none⟩) (l.length + 1) cap) (l ++ [y]) → w.grownBy w' v.ownBlock → (v.ownBlock = some g' ∨ w.heap.size ≤ g') → K (a.put o.dst (.slice (some ⟨g', 0, none⟩) (l.length + 1) cap)) w') :
    if Region.wanted o (yielded ops a.tmps) = true then Oper.wpIn F n Tryz.prog o a w K Q else E := by
  obtain ⟨i0, hi, hz0, hz1, hz2⟩ := info_parts infoU64
  have hw : Region.wanted o (yielded ops a.tmps) = true := by simp [Region.wanted, hgd]
  rw [if_pos hw]
  obtain ⟨g', cap, w', hr, h2, h3, h4, h5⟩ := run_append_lies (P := Tryz.prog) w 404 o.type base 62 i0 (.int .u64 0) 1 8 Tryz.underlying404 hi hz0 hz1 hz2 rfl (by decide) v l.length _ hown ⟨g, 0, none⟩ 1 1 [.int .u64 y]
    rfl (World.news_of_block hnew) (by intro u hu; simp at hu; subst hu; rfl) (by omega) (by simp only [maxLen]; omega) (by omega) hbase _ rfl
  unfold Oper.wpIn
  refine ⟨?_, ?_⟩
  · simp [Oper.about, ho, resolve, Target.leads, Sem.run_pure]
  · rw [Oper.semAt_plain F _ _ (by rw [ho]; intro c hc'; cases hc')]
    unfold execOp
    simp only [ho, resolve, invoke, builtin, Sem.run_bind, Sem.run_pure, Result.andThen_ok, List.map_toArray, List.map_cons, List.map_nil, hs, hx, hr]
    refine h g' cap w' (by unfold OwnR; simpa [encN] using h2) h3 ?_
    rcases h4 with h4 | h4
    · exact .inl h4
    · exact .inr (by omega)

end Go.Proofs.YtheenlomlmbjaaaGreatDoor

namespace Go.Proofs.YtheenlomlmbjaaaGreatDoor
open Go.RowKit Go.Shelf

attribute [local go_sem] Oper.semAt_some

theorem keepT {b o : Nat} {c0 c1 : Value} {w w' : World} (h : w.cell? ⟨b, o, none⟩ = some c0 ∧ w.cell? ⟨b, o + 1, none⟩ = some c1) (hb : Below w.heap.size w w') :
    w'.cell? ⟨b, o, none⟩ = some c0 ∧ w'.cell? ⟨b, o + 1, none⟩ = some c1 := by
  have hlt : b < w.heap.size := World.block_lt_of_cell? w _ h.1
  exact ⟨(hb.cell (p := ⟨b, o, none⟩) hlt).trans h.1, (hb.cell (p := ⟨b, o + 1, none⟩) hlt).trans h.2⟩

end Go.Proofs.YtheenlomlmbjaaaGreatDoor

namespace Go.Proofs.YtheenlomlmbjaaaGreatDoor
open Go.RowKit Go.Shelf

theorem getD_set {l : Array Bool} {i k : Nat} (hi : i < l.size) (d : Bool) : (l.setIfInBounds i true).getD k d = if k = i then true else l.getD k d := by
  simp only [Array.getD_eq_getD_getElem?, Array.getElem?_setIfInBounds]
  by_cases h : i = k
  · subst h; simp [hi]
  · rw [if_neg h, if_neg (fun e => h e.symm)]
theorem ready_iff {md : Region.Mode} {ops : Array Oper} {l : Array Bool} {i : Nat} (h : i ∈ Region.ready md ops l) :
    i < ops.size ∧ l.getD i true = false ∧ ((ops[i]?).map (·.after.all fun e => !Region.binds md e || l.getD e.on false)).getD false = true := by
  unfold Region.ready at h
  rw [List.mem_filter] at h
  obtain ⟨h1, h2⟩ := h
  simp only [Bool.and_eq_true, Bool.not_eq_true'] at h2
  exact ⟨List.mem_range.1 h1, h2.1, h2.2⟩
def todo (n : Nat) (l : Array Bool) : Nat := (List.range n).countP fun i => !l.getD i true
theorem todo_set {n : Nat} {l : Array Bool} {i : Nat} (hi : i < n) (hs : l.size = n) (hf : l.getD i true = false) : todo n (l.setIfInBounds i true) + 1 = todo n l := by
  unfold todo
  have key : ∀ m, (List.range m).countP (fun k => !(l.setIfInBounds i true).getD k true) + (if i < m then 1 else 0) = (List.range m).countP (fun k => !l.getD k true) := by
    intro m
    induction m with
    | zero => simp
    | succ m ih =>
      rw [List.range_succ, List.countP_append, List.countP_append, List.countP_singleton, List.countP_singleton, ← ih]
      by_cases e : m = i
      · subst e
        simp [getD_set (show m < l.size by omega), hf]
      · rw [getD_set (by omega), if_neg e]
        have h : (if i < m + 1 then 1 else 0) = (if i < m then 1 else 0) := by
          by_cases h1 : i < m
          · rw [if_pos h1, if_pos (by omega)]
          · rw [if_neg h1, if_neg (by omega)]
        rw [h]
        omega
  have := key n
  rw [if_pos hi] at this
  exact this
theorem todo_none {md : Region.Mode} {ops : Array Oper} {l : Array Bool} (h : todo ops.size l = 0) : Region.ready md ops l = [] := by
  rw [List.eq_nil_iff_forall_not_mem]
  intro i hi
  obtain ⟨h1, h2, _⟩ := ready_iff hi
  unfold todo at h
  rw [List.countP_eq_zero] at h
  have := h i (List.mem_range.2 h1)
  rw [h2] at this
  simp at this

theorem ready_last {md : Region.Mode} {ops : Array Oper} {l : Array Bool} (hs : l.size = ops.size) (hdep : ((List.range ops.size).all fun k => ((ops[k]?).map fun o => o.after.all fun e => decide (e.on < k)).getD true) = true)
    (hr : Region.ready md ops l = []) : ∀ k, k < ops.size → l.getD k false = true := by
  intro k
  induction k using Nat.strongRecOn with
  | ind k ih =>
    intro hk
    have h := (List.filter_eq_nil_iff.1 hr) k (List.mem_range.2 hk)
    have hd := List.all_eq_true.1 hdep k (List.mem_range.2 hk)
    rw [Array.getElem?_eq_getElem hk] at h hd
    simp only [Option.map_some, Option.getD_some] at h hd
    have hall : (ops[k].after.all fun e => !Region.binds md e || l.getD e.on false) = true := by
      rw [Array.all_eq_true'] at hd ⊢
      intro e he
      have he' := hd e he
      have hlt : e.on < k := by simpa using he'
      rw [ih e.on hlt (by omega), Bool.or_true]
    rw [hall, Bool.and_true] at h
    rw [Array.getD_eq_getD_getElem?, Array.getElem?_eq_getElem (show k < l.size by omega)] at h ⊢
    simpa using h

theorem wpAnyIn_inv {F : Fence} {n : Nat} {P : Program} {md : Region.Mode} {ops : Array Oper} {Q : Exit → Act → World → Prop} (Inv : Array Bool → Act → World → Prop) (hsz : ∀ l a w, Inv l a w → l.size = ops.size)
    (hstep : ∀ l a w i, Inv l a w → i ∈ Region.ready md ops l → wpOpIn F n P ops Q i (fun a' w' => Inv (l.setIfInBounds i true) a' w') a w)
    (hend : ∀ l a w, Inv l a w → Region.ready md ops l = [] → Q .normal a w) :
    ∀ (fuel : Nat) (l : Array Bool) (a : Act) (w : World), Inv l a w → todo ops.size l ≤ fuel → wpAnyIn F n P md ops Q fuel l a w := by
  intro fuel
  induction fuel with
  | zero =>
    intro l a w hI hf
    have hr := todo_none (md := md) (ops := ops) (l := l) (by omega)
    exact ⟨hr, hend l a w hI hr⟩
  | succ fuel ih =>
    intro l a w hI hf
    refine ⟨fun hr => hend l a w hI hr, fun i hi => ?_⟩
    refine wpOpIn_mono (fun a' w' h => ?_) (hstep l a w i hI hi)
    obtain ⟨h1, h2, _⟩ := ready_iff hi
    exact ih _ a' w' h (by have := todo_set h1 (hsz l a w hI) h2; omega)

end Go.Proofs.YtheenlomlmbjaaaGreatDoor

namespace Go.Proofs.YtheenlomlmbjaaaGreatDoor
open Go.RowKit Go.Shelf

theorem eval_same {a : Act} {d t : Nat} {v : Value} (h : d < a.tmps.size) : (a.put (some d) v).eval (.tmp d) = v := by
  show (a.tmps.setIfInBounds d v).getD d undef = v
  simp [Array.getD_eq_getD_getElem?, Array.getElem?_setIfInBounds, h]
theorem eval_other {a : Act} {d t : Nat} {v : Value} (h : t ≠ d) : (a.put (some d) v).eval (.tmp t) = a.eval (.tmp t) :=
  Act.eval_put (fun e he h' => by cases he; cases h'; exact h rfl)
theorem put_size {a : Act} {d : Option Nat} {v : Value} : (a.put d v).tmps.size = a.tmps.size := by
  cases d with
  | none => rfl
  | some d => show (a.tmps.setIfInBounds d v).size = _; simp

structure Half (p q t N Bx x : Nat) (l : List Nat) (v : Value) (b0 b1 b2 b3 b8 : Bool) (a : Act) (w : World) (u u' : Value) : Prop where
  ep : a.eval (.tmp p) = .pointer (some ⟨Bx, 0, none⟩)
  eq : a.eval (.tmp q) = .int .u64 x
  bx : Boxed w Bx 404 (if b8 then u else v)
  ow : OwnR 62 1 encN w N u (if b3 then l ++ [x] else l)
  uv : b3 = false → u = v
  d0 : b0 = true → a.eval (.tmp t) = v
  d1 : b1 = true → a.eval (.tmp (t + 1)) = .int .u64 x
  d2 : b2 = true → b3 = false → ∃ g, a.eval (.tmp (t + 2)) = .slice (some ⟨g, 0, none⟩) 1 1 ∧ w.heap[g]? = some (.cells #[.int .u64 x] 62 (0, 0)) ∧ u.ownBlock ≠ some g ∧ u'.ownBlock ≠ some g
  d3 : b3 = true → a.eval (.tmp (t + 3)) = u
  b83 : b8 = true → b3 = true
  b30 : b3 = true → b0 = true

section
variable {p q t N Bx x : Nat} {l : List Nat} {v : Value} {b0 b1 b2 b3 b8 : Bool} {a : Act} {w : World} {u u' : Value}

theorem Half.other (h : Half p q t N Bx x l v b0 b1 b2 b3 b8 a w u u') {d : Nat} (y : Value) (h1 : p ≠ d) (h2 : q ≠ d) (h3 : d < t ∨ t + 3 < d) : Half p q t N Bx x l v b0 b1 b2 b3 b8 (a.put (some d) y) w u u' :=
  { h with
    ep := by rw [eval_other h1]; exact h.ep
    eq := by rw [eval_other h2]; exact h.eq
    d0 := fun e => by rw [eval_other (by omega)]; exact h.d0 e
    d1 := fun e => by rw [eval_other (by omega)]; exact h.d1 e
    d2 := fun e e' => by rw [eval_other (by omega)]; exact h.d2 e e'
    d3 := fun e => by rw [eval_other (by omega)]; exact h.d3 e }
theorem Half.alloc (h : Half p q t N Bx x l v b0 b1 b2 b3 b8 a w u u') (o : Obj) : Half p q t N Bx x l v b0 b1 b2 b3 b8 a (w.alloc o) u u' :=
  { h with
    bx := h.bx.alloc o
    ow := h.ow.below ((Below.refl _ _).alloc (Nat.le_refl _) _)
    d2 := fun e e' => by
      obtain ⟨g, h1, h2, h3, h4⟩ := h.d2 e e'
      exact ⟨g, h1, (Below.heap_alloc _ _ _ (lt_of_heap h2)).trans h2, h3, h4⟩ }
theorem Half.grown {u'' : Value} {w' : World} {l' : List Nat} (h : Half p q t N Bx x l v b0 b1 b2 b3 b8 a w u u') (ho : OwnR 62 1 encN w N u' l') (hg : w.grownBy w' u'.ownBlock) (hu : u.ownBlock = .none ∨ u.ownBlock ≠ u'.ownBlock)
    (hn : u''.ownBlock = u'.ownBlock ∨ ∃ g, u''.ownBlock = some g ∧ w.heap.size ≤ g) : Half p q t N Bx x l v b0 b1 b2 b3 b8 a w' u u'' :=
  { h with
    bx := h.bx.kept hg (h.bx.not_row (by decide) ho)
    ow := World.ownsRow.kept h.ow hg (by rcases hu with e | e
                                         · exact .inl e
                                         · exact .inr e)
    d2 := fun e e' => by
      obtain ⟨g, h1, h2, h3, h4⟩ := h.d2 e e'
      refine ⟨g, h1, (hg.block g (lt_of_heap h2) (fun e => h4 e.symm)).trans h2, h3, ?_⟩
      rcases hn with e | ⟨g', e, hg'⟩
      · rw [e]; exact h4
      · rw [e]; intro e'; have := lt_of_heap h2; simp at e'; omega }
theorem Half.set {By : Nat} {y z : Value} (h : Half p q t N Bx x l v b0 b1 b2 b3 b8 a w u u') (hy : Boxed w By 404 z) (hne : Bx ≠ By) : Half p q t N Bx x l v b0 b1 b2 b3 b8 a (w.setCell ⟨By, 0, Option.none⟩ y) u u' :=
  { h with
    bx := (Below.heap_setCell _ _ _ _ hne).trans h.bx
    ow := World.ownsRow.kept h.ow (grownBy_setCell' w By y) (.inr (hy.not_row (by decide) h.ow).symm)
    d2 := fun e e' => by
      obtain ⟨g, h1, h2, h3, h4⟩ := h.d2 e e'
      refine ⟨g, h1, (Below.heap_setCell _ _ _ _ (fun e => ?_)).trans h2, h3, h4⟩
      simp at e; subst e
      rw [show w.heap[g]? = _ from hy] at h2
      simp at h2 }
end

section
variable {p q t N Bx x : Nat} {l : List Nat} {v : Value} {b0 b1 b2 b3 b8 : Bool} {a : Act} {w : World} {u u' : Value}
theorem Half.load (h : Half p q t N Bx x l v b0 b1 b2 b3 b8 a w u u') (hp : p < t ∧ q < t) (hs : t < a.tmps.size) : Half p q t N Bx x l v true b1 b2 b3 b8 (a.put (some t) v) w u u' :=
  { h with
    ep := by rw [eval_other (by omega)]; exact h.ep
    eq := by rw [eval_other (by omega)]; exact h.eq
    d0 := fun _ => eval_same (t := t) hs
    d1 := fun e => by rw [eval_other (by omega)]; exact h.d1 e
    d2 := fun e e' => by rw [eval_other (by omega)]; exact h.d2 e e'
    d3 := fun e => by rw [eval_other (by omega)]; exact h.d3 e
    b30 := fun _ => rfl }
theorem Half.move (h : Half p q t N Bx x l v b0 b1 b2 b3 b8 a w u u') (hp : p < t ∧ q < t) (hs : t + 1 < a.tmps.size) : Half p q t N Bx x l v b0 true b2 b3 b8 (a.put (some (t + 1)) (.int .u64 x)) w u u' :=
  { h with
    ep := by rw [eval_other (by omega)]; exact h.ep
    eq := by rw [eval_other (by omega)]; exact h.eq
    d0 := fun e => by rw [eval_other (by omega)]; exact h.d0 e
    d1 := fun _ => eval_same (t := t + 1) hs
    d2 := fun e e' => by rw [eval_other (by omega)]; exact h.d2 e e'
    d3 := fun e => by rw [eval_other (by omega)]; exact h.d3 e }
theorem Half.built {l' : List Nat} (h : Half p q t N Bx x l v b0 b1 b2 b3 b8 a w u u') (hp : p < t ∧ q < t) (hs : t + 2 < a.tmps.size) (ho : OwnR 62 1 encN w N u' l') :
    Half p q t N Bx x l v b0 b1 true b3 b8 (a.put (some (t + 2)) (.slice (some ⟨w.heap.size, 0, Option.none⟩) 1 1)) (w.alloc (.cells #[.int .u64 x] 62)) u u' :=
  { h.alloc _ with
    ep := by rw [eval_other (by omega)]; exact h.ep
    eq := by rw [eval_other (by omega)]; exact h.eq
    d0 := fun e => by rw [eval_other (by omega)]; exact h.d0 e
    d1 := fun e => by rw [eval_other (by omega)]; exact h.d1 e
    d2 := fun _ _ => ⟨w.heap.size, eval_same (t := t + 2) hs, heap_alloc_new _ _, fun e => by have := (World.ownsRow.lt h.ow _ e).2; omega, fun e => by have := (World.ownsRow.lt ho _ e).2; omega⟩
    d3 := fun e => by rw [eval_other (by omega)]; exact h.d3 e }
theorem Half.app {w' : World} {u1 : Value} (h : Half p q t N Bx x l v b0 b1 b2 b3 b8 a w u u') (h0 : b0 = true) (h3 : b3 = false) (hp : p < t ∧ q < t) (hs : t + 3 < a.tmps.size) (hg : w.grownBy w' u.ownBlock)
    (ho : OwnR 62 1 encN w' N u1 (l ++ [x])) : Half p q t N Bx x l v b0 b1 b2 true b8 (a.put (some (t + 3)) u1) w' u1 u' :=
  { ep := by rw [eval_other (by omega)]; exact h.ep
    eq := by rw [eval_other (by omega)]; exact h.eq
    bx := by
      have h8 : b8 = false := by
        cases hb : b8 with
        | false => rfl
        | true => have := h.b83 hb; rw [h3] at this; cases this
      have hb := h.bx
      rw [h8] at hb ⊢
      exact hb.kept hg (hb.not_row (by decide) h.ow)
    ow := ho
    uv := fun e => by cases e
    d0 := fun e => by rw [eval_other (by omega)]; exact h.d0 e
    d1 := fun e => by rw [eval_other (by omega)]; exact h.d1 e
    d2 := fun _ e => by cases e
    d3 := fun _ => eval_same (t := t + 3) hs
    b83 := fun _ => rfl
    b30 := fun _ => h0 }
theorem Half.stored (h : Half p q t N Bx x l v b0 b1 b2 b3 b8 a w u u') (h3 : b3 = true) : Half p q t N Bx x l v b0 b1 b2 b3 true a (w.setCell ⟨Bx, 0, Option.none⟩ u) u u' :=
  { h with
    bx := h.bx.set u
    ow := World.ownsRow.kept h.ow (grownBy_setCell' w Bx u) (.inr (h.bx.not_row (by decide) h.ow).symm)
    d2 := fun _ e => by rw [h3] at e; cases e
    b83 := fun _ => h3 }
end

theorem opIn {F : Fence} {n : Nat} {P : Program} {o : Oper} {a : Act} {w w' : World} {K : Act → World → Prop} {Q : Exit → Act → World → Prop} {y : Value} (hd : ∀ c, o.op ≠ .defer c) (hab : o.about P w a.eval = none)
    (hr : (execOp a.eval o).run P w = .ok (.value y) w') (h : K (a.put o.dst y) w') : Oper.wpIn F n P o a w K Q := by
  unfold Oper.wpIn
  refine ⟨(by rw [hab]; intro f hf; cases hf), ?_⟩
  rw [Oper.semAt_plain F _ _ hd, hr]
  exact h

structure R20 (ops : Array Oper) : Prop where
  size : ops.size = 10
  o0 : ∃ o, ops[0]? = some o ∧ o.guard = none ∧ o.dst = some 67 ∧ o.op = .load 404 (.tmp 8)
  o1 : ∃ o, ops[1]? = some o ∧ o.guard = none ∧ o.dst = some 68 ∧ o.op = .move (.tmp 10)
  o2 : ∃ o, ops[2]? = some o ∧ o.guard = none ∧ o.dst = some 69 ∧ o.op = .buildSlice 404 1 #[(0, .tmp 68)]
  o3 : ∃ o, ops[3]? = some o ∧ o.guard = none ∧ o.dst = some 70 ∧ o.op = .call { callee := .builtin .append, args := #[.tmp 67, .tmp 69], argTypes := #[404, 404] }
  o4 : ∃ o, ops[4]? = some o ∧ o.guard = none ∧ o.dst = some 71 ∧ o.op = .load 404 (.tmp 9)
  o5 : ∃ o, ops[5]? = some o ∧ o.guard = none ∧ o.dst = some 72 ∧ o.op = .move (.tmp 11)
  o6 : ∃ o, ops[6]? = some o ∧ o.guard = none ∧ o.dst = some 73 ∧ o.op = .buildSlice 404 1 #[(0, .tmp 72)]
  o7 : ∃ o, ops[7]? = some o ∧ o.guard = none ∧ o.dst = some 74 ∧ o.op = .call { callee := .builtin .append, args := #[.tmp 71, .tmp 73], argTypes := #[404, 404] }
  o8 : ∃ o, ops[8]? = some o ∧ o.guard = none ∧ o.dst = none ∧ o.op = .store 404 (.tmp 8) (.tmp 70)
  o9 : ∃ o, ops[9]? = some o ∧ o.guard = none ∧ o.dst = none ∧ o.op = .store 404 (.tmp 9) (.tmp 74)
  dep : ∀ i l, i ∈ Region.ready .any ops l → (i = 2 → l.getD 1 false = true) ∧ (i = 3 → l.getD 0 false = true ∧ l.getD 2 false = true) ∧ (i = 6 → l.getD 5 false = true) ∧ (i = 7 → l.getD 4 false = true ∧ l.getD 6 false = true) ∧
    (i = 8 → l.getD 3 false = true) ∧ (i = 9 → l.getD 7 false = true)
  last : ∀ l : Array Bool, l.size = 10 → Region.ready .any ops l = [] → ∀ k, k < 10 → l.getD k false = true

theorem opInS {F : Fence} {n : Nat} {P : Program} {o : Oper} {a : Act} {w w' : World} {K : Act → World → Prop} {Q : Exit → Act → World → Prop} (hd : ∀ c, o.op ≠ .defer c) (hab : o.about P w a.eval = none)
    (hr : (execOp a.eval o).run P w = .ok .skip w') (h : K (a.put o.dst undef) w') : Oper.wpIn F n P o a w K Q := by
  unfold Oper.wpIn
  refine ⟨(by rw [hab]; intro f hf; cases hf), ?_⟩
  rw [Oper.semAt_plain F _ _ hd, hr]
  exact h
theorem row_cells {w : World} {N : Nat} {u : Value} {l : List Nat} (h : OwnR 62 1 encN w N u l) {k : Nat} (hk : u.ownBlock = some k) : ∃ o : Obj, w.heap[k]? = some o ∧ o.isCells = true := by
  rcases h.2 with ⟨e, _⟩ | ⟨g, cap, cur, e, _, hh, _⟩
  · rw [e] at hk; cases hk
  · rw [e] at hk
    obtain rfl : g = k := by simpa [Value.ownBlock] using hk
    exact ⟨_, hh, rfl⟩
theorem ownsRow_some {w : World} {N x : Nat} {u : Value} {l : List Nat} (h : OwnR 62 1 encN w N u (l ++ [x])) : ∃ g cap, u = .slice (some ⟨g, 0, none⟩) (l ++ [x]).length cap := by
  rcases h.2 with ⟨e, h0⟩ | ⟨g, cap, cur, e, _⟩
  · simp at h0
  · exact ⟨g, cap, e⟩

theorem run_ld {w : World} {B : Nat} {v : Value} (h : Boxed w B 404 v) : (Instr.loadAt 404 (.pointer (some ⟨B, 0, none⟩))).run Tryz.prog w = .ok v w := by
  have hc := h.cell
  simp [go_sem, Instr.loadAt, Instr.sureAddr, hc]
theorem run_bs (w : World) (x : Nat) : (Instr.buildSlice 404 1 #[(0, .int .u64 x)]).run Tryz.prog w = .ok (.slice (some ⟨w.heap.size, 0, none⟩) 1 1) (w.alloc (.cells #[.int .u64 x] 62)) := by
  kernel_rfl
theorem run_st {w : World} {B : Nat} {v : Value} {g n c : Nat} (h : Boxed w B 404 v) : (Instr.storeAt 404 (.pointer (some ⟨B, 0, none⟩)) (.slice (some ⟨g, 0, none⟩) n c)).run Tryz.prog w = .ok () (w.setCell ⟨B, 0, none⟩ (.slice (some ⟨g, 0, none⟩) n c)) := by
  have hc := h.cell
  have hf := h.frozen
  simp [go_sem, Instr.storeAt, Instr.sureAddr, hc, hf]

def RInv (N B : Nat) (x1 x2 : Nat) (l1 l2 : List Nat) (v1 v2 : Value) (Rel : World → Prop) (l : Array Bool) (a : Act) (w : World) : Prop :=
  l.size = 10 ∧ a.tmps.size = 110 ∧ ∃ u1 u2,
    Half 8 10 67 N B x1 l1 v1 (l.getD 0 false) (l.getD 1 false) (l.getD 2 false) (l.getD 3 false) (l.getD 8 false) a w u1 u2 ∧
    Half 9 11 71 N (B + 1) x2 l2 v2 (l.getD 4 false) (l.getD 5 false) (l.getD 6 false) (l.getD 7 false) (l.getD 9 false) a w u2 u1 ∧
    (u1.ownBlock = none ∨ u1.ownBlock ≠ u2.ownBlock) ∧ (u2.ownBlock = none ∨ u2.ownBlock ≠ u1.ownBlock) ∧ Rel w

theorem region20 {ops : Array Oper} (hR : R20 ops) {n r : Nat} {Q : Exit → Act → World → Prop} {id N B x1 x2 : Nat} {l1 l2 : List Nat} {v1 v2 : Value} {a : Act} {W : World} (Rel : World → Prop)
    (hlen : l1.length ≤ 1000 ∧ l2.length ≤ 1000)
    (ha : a.tmps.size = 110) (h8 : a.eval (.tmp 8) = .pointer (some ⟨B, 0, none⟩)) (h9 : a.eval (.tmp 9) = .pointer (some ⟨B + 1, 0, none⟩)) (h10 : a.eval (.tmp 10) = .int .u64 x1) (h11 : a.eval (.tmp 11) = .int .u64 x2)
    (b1 : Boxed W B 404 v1) (b2 : Boxed W (B + 1) 404 v2) (o1 : OwnR 62 1 encN W N v1 l1) (o2 : OwnR 62 1 encN W N v2 l2)
    (hd : v1.ownBlock = none ∨ v1.ownBlock ≠ v2.ownBlock) (hrel : Rel W.drew)
    (hRel : ∀ w, Rel w → N ≤ w.heap.size ∧ (∀ o, Rel (w.alloc o)) ∧ (∀ w' u, w.grownBy w' u → (∀ k, u = some k → N ≤ k ∧ ∃ o : Obj, w.heap[k]? = some o ∧ o.isCells = true) → Rel w') ∧ (∀ y, Rel (w.setCell ⟨B, 0, none⟩ y)) ∧ (∀ y, Rel (w.setCell ⟨B + 1, 0, none⟩ y)))
    (hQ : ∀ a' w' u1 u2, Boxed w' B 404 u1 → Boxed w' (B + 1) 404 u2 → OwnR 62 1 encN w' N u1 (l1 ++ [x1]) → OwnR 62 1 encN w' N u2 (l2 ++ [x2]) → (u1.ownBlock = none ∨ u1.ownBlock ≠ u2.ownBlock) → Rel w' → Q .normal a' w') :
    (Code.region id ops true).wpIn (Fence.wide.inRound r) n Tryz.prog Q a W := by
  refine wpIn_region_any (by kernel_rfl) ?_
  refine wpAnyIn_inv (RInv N B x1 x2 l1 l2 v1 v2 Rel) (fun l a w h => by rw [h.1, hR.size]) ?_ ?_ _ _ _ _ ?_ ?_
  · rintro l a w i ⟨hs, hat, u1, u2, H1, H2, hd1, hd2, hrel⟩ hi
    obtain ⟨hi1, hi2, -⟩ := ready_iff hi
    rw [hR.size] at hi1
    obtain ⟨p2, p3, p6, p7, p8, p9⟩ := hR.dep i l hi
    have hls : i < l.size := by omega
    have hset : ∀ k, k ≠ i → (l.setIfInBounds i true).getD k false = l.getD k false := fun k hk => by rw [getD_set hls, if_neg hk]
    have hsi : (l.setIfInBounds i true).getD i false = true := by rw [getD_set hls, if_pos rfl]
    have hfi : l.getD i false = false := by
      rw [Array.getD_eq_getD_getElem?, Array.getElem?_eq_getElem hls] at hi2 ⊢
      exact hi2
    have hss : (l.setIfInBounds i true).size = 10 := by rw [Array.size_setIfInBounds]; exact hs
    obtain ⟨hN, hRa, hRg, hRs1, hRs2⟩ := hRel w hrel
    have hcases : i = 0 ∨ i = 1 ∨ i = 2 ∨ i = 3 ∨ i = 4 ∨ i = 5 ∨ i = 6 ∨ i = 7 ∨ i = 8 ∨ i = 9 := by omega
    rcases hcases with rfl | rfl | rfl | rfl | rfl | rfl | rfl | rfl | rfl | rfl
    · obtain ⟨o, ho, hg, hdst, hop⟩ := hR.o0
      have h3 : l.getD 3 false = false := by
        cases hb : l.getD 3 false with
        | false => rfl
        | true => have := H1.b30 hb; rw [hfi] at this; cases this
      have h8' : l.getD 8 false = false := by
        cases hb : l.getD 8 false with
        | false => rfl
        | true => have := H1.b83 hb; rw [h3] at this; cases this
      have hbx := H1.bx
      rw [h8'] at hbx
      simp only [wpOpIn, ho]
      rw [if_pos (by simp [Region.wanted, hg])]
      refine opIn (by rw [hop]; intro c h; cases h) (by simp [Oper.about, hop]) (y := v1) (w' := w) (by unfold execOp; simp only [hop, H1.ep, Sem.run_bind, run_ld hbx, Result.andThen_ok, Sem.run_pure]; rfl) ?_
      rw [hdst]
      refine ⟨hss, by rw [put_size]; exact hat, u1, u2, ?_, ?_, hd1, hd2, hrel⟩
      · rw [hsi, hset 1 (by decide), hset 2 (by decide), hset 3 (by decide), hset 8 (by decide)]
        exact H1.load (by decide) (by omega)
      · rw [hset 4 (by decide), hset 5 (by decide), hset 6 (by decide), hset 7 (by decide), hset 9 (by decide)]
        exact H2.other _ (by decide) (by decide) (by decide)
    · obtain ⟨o, ho, hg, hdst, hop⟩ := hR.o1
      simp only [wpOpIn, ho]
      rw [if_pos (by simp [Region.wanted, hg])]
      refine opIn (by rw [hop]; intro c h; cases h) (by simp [Oper.about, hop]) (y := .int .u64 x1) (w' := w) (by unfold execOp; simp only [hop, H1.eq, Sem.run_pure]) ?_
      rw [hdst]
      refine ⟨hss, by rw [put_size]; exact hat, u1, u2, ?_, ?_, hd1, hd2, hrel⟩
      · rw [hset 0 (by decide), hsi, hset 2 (by decide), hset 3 (by decide), hset 8 (by decide)]
        exact H1.move (by decide) (by omega)
      · rw [hset 4 (by decide), hset 5 (by decide), hset 6 (by decide), hset 7 (by decide), hset 9 (by decide)]
        exact H2.other _ (by decide) (by decide) (by decide)
    · obtain ⟨o, ho, hg, hdst, hop⟩ := hR.o2
      have hm := H1.d1 (p2 rfl)
      simp only [wpOpIn, ho]
      rw [if_pos (by simp [Region.wanted, hg])]
      refine opIn (by rw [hop]; intro c h; cases h) (by simp [Oper.about, hop]) (y := .slice (some ⟨w.heap.size, 0, none⟩) 1 1) (w' := w.alloc (.cells #[.int .u64 x1] 62)) (by
        unfold execOp
        simp only [hop, List.map_toArray, List.map_cons, List.map_nil, hm, Sem.run_bind, run_bs, Result.andThen_ok, Sem.run_pure]) ?_
      rw [hdst]
      refine ⟨hss, by rw [put_size]; exact hat, u1, u2, ?_, ?_, hd1, hd2, hRa _⟩
      · rw [hset 0 (by decide), hset 1 (by decide), hsi, hset 3 (by decide), hset 8 (by decide)]
        exact H1.built (by decide) (by omega) H2.ow
      · rw [hset 4 (by decide), hset 5 (by decide), hset 6 (by decide), hset 7 (by decide), hset 9 (by decide)]
        exact (H2.alloc _).other _ (by decide) (by decide) (by decide)
    · obtain ⟨o, ho, hg, hdst, hop⟩ := hR.o3
      obtain ⟨q0, q2⟩ := p3 rfl
      have hu := H1.uv hfi
      obtain ⟨g, hgs, hgh, hg1, hg2⟩ := H1.d2 q2 hfi
      have how := H1.ow
      rw [hfi] at how
      simp only [wpOpIn, ho]
      refine step_app_in w hg (.tmp 67) (.tmp 69) hop N u1 l1 x1 g (by rw [H1.d0 q0, hu]) hgs hgh how hN (by omega) ?_
      intro g' cap w' hown hgr hat'
      rw [hdst]
      have hnew : (Value.slice (some ⟨g', 0, none⟩) (l1.length + 1) cap).ownBlock = u1.ownBlock ∨ ∃ k, (Value.slice (some ⟨g', 0, none⟩) (l1.length + 1) cap).ownBlock = some k ∧ w.heap.size ≤ k := by
        rcases hat' with e | e
        · exact .inl (by rw [e]; rfl)
        · exact .inr ⟨g', rfl, e⟩
      have hdj : ∀ k, u2.ownBlock = some k → k ≠ g' := fun k hk e => by
        subst e
        rcases hat' with e | e
        · rcases hd2 with h | h
          · rw [hk] at h; cases h
          · exact h (by rw [hk, e])
        · have := (World.ownsRow.lt H2.ow _ hk).2; omega
      refine ⟨hss, by rw [put_size]; exact hat, .slice (some ⟨g', 0, none⟩) (l1.length + 1) cap, u2, ?_, ?_, (.inr (fun e => hdj g' e.symm rfl)), (by cases hk : u2.ownBlock with | none => exact .inl rfl | some k => exact .inr (fun e => hdj k hk (Option.some.inj (e : some k = some g')))), hRg _ _ hgr (fun k hk => ⟨(World.ownsRow.lt H1.ow k hk).1, row_cells H1.ow hk⟩)⟩
      · rw [hset 0 (by decide), hset 1 (by decide), hset 2 (by decide), hsi, hset 8 (by decide)]
        exact H1.app q0 hfi (by decide) (by omega) hgr hown
      · rw [hset 4 (by decide), hset 5 (by decide), hset 6 (by decide), hset 7 (by decide), hset 9 (by decide)]
        exact (H2.grown H1.ow hgr hd2 hnew).other _ (by decide) (by decide) (by decide)
    · obtain ⟨o, ho, hg, hdst, hop⟩ := hR.o4
      have h3 : l.getD 7 false = false := by
        cases hb : l.getD 7 false with
        | false => rfl
        | true => have := H2.b30 hb; rw [hfi] at this; cases this
      have h8' : l.getD 9 false = false := by
        cases hb : l.getD 9 false with
        | false => rfl
        | true => have := H2.b83 hb; rw [h3] at this; cases this
      have hbx := H2.bx
      rw [h8'] at hbx
      simp only [wpOpIn, ho]
      rw [if_pos (by simp [Region.wanted, hg])]
      refine opIn (by rw [hop]; intro c h; cases h) (by simp [Oper.about, hop]) (y := v2) (w' := w) (by unfold execOp; simp only [hop, H2.ep, Sem.run_bind, run_ld hbx, Result.andThen_ok, Sem.run_pure]; rfl) ?_
      rw [hdst]
      refine ⟨hss, by rw [put_size]; exact hat, u1, u2, ?_, ?_, hd1, hd2, hrel⟩
      · rw [hset 0 (by decide), hset 1 (by decide), hset 2 (by decide), hset 3 (by decide), hset 8 (by decide)]
        exact H1.other _ (by decide) (by decide) (by decide)
      · rw [hsi, hset 5 (by decide), hset 6 (by decide), hset 7 (by decide), hset 9 (by decide)]
        exact H2.load (by decide) (by omega)
    · obtain ⟨o, ho, hg, hdst, hop⟩ := hR.o5
      simp only [wpOpIn, ho]
      rw [if_pos (by simp [Region.wanted, hg])]
      refine opIn (by rw [hop]; intro c h; cases h) (by simp [Oper.about, hop]) (y := .int .u64 x2) (w' := w) (by unfold execOp; simp only [hop, H2.eq, Sem.run_pure]) ?_
      rw [hdst]
      refine ⟨hss, by rw [put_size]; exact hat, u1, u2, ?_, ?_, hd1, hd2, hrel⟩
      · rw [hset 0 (by decide), hset 1 (by decide), hset 2 (by decide), hset 3 (by decide), hset 8 (by decide)]
        exact H1.other _ (by decide) (by decide) (by decide)
      · rw [hset 4 (by decide), hsi, hset 6 (by decide), hset 7 (by decide), hset 9 (by decide)]
        exact H2.move (by decide) (by omega)
    · obtain ⟨o, ho, hg, hdst, hop⟩ := hR.o6
      have hm := H2.d1 (p6 rfl)
      simp only [wpOpIn, ho]
      rw [if_pos (by simp [Region.wanted, hg])]
      refine opIn (by rw [hop]; intro c h; cases h) (by simp [Oper.about, hop]) (y := .slice (some ⟨w.heap.size, 0, none⟩) 1 1) (w' := w.alloc (.cells #[.int .u64 x2] 62)) (by
        unfold execOp
        simp only [hop, List.map_toArray, List.map_cons, List.map_nil, hm, Sem.run_bind, run_bs, Result.andThen_ok, Sem.run_pure]) ?_
      rw [hdst]
      refine ⟨hss, by rw [put_size]; exact hat, u1, u2, ?_, ?_, hd1, hd2, hRa _⟩
      · rw [hset 0 (by decide), hset 1 (by decide), hset 2 (by decide), hset 3 (by decide), hset 8 (by decide)]
        exact (H1.alloc _).other _ (by decide) (by decide) (by decide)
      · rw [hset 4 (by decide), hset 5 (by decide), hsi, hset 7 (by decide), hset 9 (by decide)]
        exact H2.built (by decide) (by omega) H1.ow
    · obtain ⟨o, ho, hg, hdst, hop⟩ := hR.o7
      obtain ⟨q0, q2⟩ := p7 rfl
      have hu := H2.uv hfi
      obtain ⟨g, hgs, hgh, hg1, hg2⟩ := H2.d2 q2 hfi
      have how := H2.ow
      rw [hfi] at how
      simp only [wpOpIn, ho]
      refine step_app_in w hg (.tmp 71) (.tmp 73) hop N u2 l2 x2 g (by rw [H2.d0 q0, hu]) hgs hgh how hN (by omega) ?_
      intro g' cap w' hown hgr hat'
      rw [hdst]
      have hnew : (Value.slice (some ⟨g', 0, none⟩) (l2.length + 1) cap).ownBlock = u2.ownBlock ∨ ∃ k, (Value.slice (some ⟨g', 0, none⟩) (l2.length + 1) cap).ownBlock = some k ∧ w.heap.size ≤ k := by
        rcases hat' with e | e
        · exact .inl (by rw [e]; rfl)
        · exact .inr ⟨g', rfl, e⟩
      have hdj : ∀ k, u1.ownBlock = some k → k ≠ g' := fun k hk e => by
        subst e
        rcases hat' with e | e
        · rcases hd1 with h | h
          · rw [hk] at h; cases h
          · exact h (by rw [hk, e])
        · have := (World.ownsRow.lt H1.ow _ hk).2; omega
      refine ⟨hss, by rw [put_size]; exact hat, u1, .slice (some ⟨g', 0, none⟩) (l2.length + 1) cap, ?_, ?_, (by cases hk : u1.ownBlock with | none => exact .inl rfl | some k => exact .inr (fun e => hdj k hk (Option.some.inj (e : some k = some g')))), (.inr (fun e => hdj g' e.symm rfl)), hRg _ _ hgr (fun k hk => ⟨(World.ownsRow.lt H2.ow k hk).1, row_cells H2.ow hk⟩)⟩
      · rw [hset 0 (by decide), hset 1 (by decide), hset 2 (by decide), hset 3 (by decide), hset 8 (by decide)]
        exact (H1.grown H2.ow hgr hd1 hnew).other _ (by decide) (by decide) (by decide)
      · rw [hset 4 (by decide), hset 5 (by decide), hset 6 (by decide), hsi, hset 9 (by decide)]
        exact H2.app q0 hfi (by decide) (by omega) hgr hown
    · obtain ⟨o, ho, hg, hdst, hop⟩ := hR.o8
      have q := p8 rfl
      have how := H1.ow
      rw [q] at how
      obtain ⟨g, cap, rfl⟩ := ownsRow_some how
      simp only [wpOpIn, ho]
      rw [if_pos (by simp [Region.wanted, hg])]
      refine opInS (by rw [hop]; intro c h; cases h) (by simp [Oper.about, hop]) (w' := w.setCell ⟨B, 0, none⟩ (.slice (some ⟨g, 0, none⟩) (l1 ++ [x1]).length cap)) (by unfold execOp; simp only [hop, H1.ep, H1.d3 q, Sem.run_bind, run_st H1.bx, Result.andThen_ok, Sem.run_pure]) ?_
      rw [hdst]
      refine ⟨hss, hat, _, u2, ?_, ?_, hd1, hd2, hRs1 _⟩
      · rw [hset 0 (by decide), hset 1 (by decide), hset 2 (by decide), hset 3 (by decide), hsi]
        exact H1.stored q
      · rw [hset 4 (by decide), hset 5 (by decide), hset 6 (by decide), hset 7 (by decide), hset 9 (by decide)]
        exact H2.set H1.bx (by omega)
    · obtain ⟨o, ho, hg, hdst, hop⟩ := hR.o9
      have q := p9 rfl
      have how := H2.ow
      rw [q] at how
      obtain ⟨g, cap, rfl⟩ := ownsRow_some how
      simp only [wpOpIn, ho]
      rw [if_pos (by simp [Region.wanted, hg])]
      refine opInS (by rw [hop]; intro c h; cases h) (by simp [Oper.about, hop]) (w' := w.setCell ⟨B + 1, 0, none⟩ (.slice (some ⟨g, 0, none⟩) (l2 ++ [x2]).length cap)) (by unfold execOp; simp only [hop, H2.ep, H2.d3 q, Sem.run_bind, run_st H2.bx, Result.andThen_ok, Sem.run_pure]) ?_
      rw [hdst]
      refine ⟨hss, hat, u1, _, ?_, ?_, hd1, hd2, hRs2 _⟩
      · rw [hset 0 (by decide), hset 1 (by decide), hset 2 (by decide), hset 3 (by decide), hset 8 (by decide)]
        exact H1.set H2.bx (by omega)
      · rw [hset 4 (by decide), hset 5 (by decide), hset 6 (by decide), hset 7 (by decide), hsi]
        exact H2.stored q
  · rintro l a w ⟨hs, hat, u1, u2, H1, H2, hd1, hd2, hrel⟩ hr
    have hall := hR.last l hs hr
    have c8 := hall 8 (by omega)
    have c9 := hall 9 (by omega)
    have c3 := H1.b83 c8
    have c7 := H2.b83 c9
    have hb1 := H1.bx
    have hb2 := H2.bx
    have ho1 := H1.ow
    have ho2 := H2.ow
    rw [c8] at hb1
    rw [c9] at hb2
    rw [c3] at ho1
    rw [c7] at ho2
    exact hQ a w u1 u2 hb1 hb2 ho1 ho2 hd1 hrel
  · refine ⟨by rw [hR.size]; simp, ha, v1, v2, ?_, ?_, hd, ?_, hrel⟩
    · rw [hR.size]
      exact ⟨h8, h10, b1, o1, fun _ => rfl, fun h => absurd h (by decide), fun h => absurd h (by decide), fun h => absurd h (by decide), fun h => absurd h (by decide), fun h => absurd h (by decide), fun h => absurd h (by decide)⟩
    · rw [hR.size]
      exact ⟨h9, h11, b2, o2, fun _ => rfl, fun h => absurd h (by decide), fun h => absurd h (by decide), fun h => absurd h (by decide), fun h => absurd h (by decide), fun h => absurd h (by decide), fun h => absurd h (by decide)⟩
    · rcases hd with h | h
      · cases hk : v2.ownBlock with
        | none => exact .inl rfl
        | some k => exact .inr (by rw [h]; intro e; cases e)
      · exact .inr (fun e => h e.symm)
  · rw [hR.size]; decide

end Go.Proofs.YtheenlomlmbjaaaGreatDoor
