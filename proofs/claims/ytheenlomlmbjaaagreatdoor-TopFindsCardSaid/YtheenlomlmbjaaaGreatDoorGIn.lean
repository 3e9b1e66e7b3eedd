/-
  A region that draws its order: each operation yields a value of which something holds, whatever has come up.
-/
import Derived.Test.YtheenlomlmbjaaaGreatDoorHShelf
import Derived.Test.YtheenlomlmbjaaaGreatDoorTEncR
import Derived.Test.YtheenlomlmbjaaaGreatDoorGInt
import Derived.BigQuiet
import Derived.Outline
import Derived.Laws.ResultCell
import Derived.Test.YtheenlomlmbjaaaGreatDoorFSer
import Derived.Test.YtheenlomlmbjaaaGreatDoorGBlock
import Derived.Shelf.SortM.Plain
import Derived.Shelf.SortM.SortNone
import Derived.Ground.SlgmProg
import Derived.Sort.OwnSortedInts
import Derived.Test.YtheenlomlmbjaaaGreatDoorMatch
import Derived.Test.YtheenlomlmbjaaaGreatDoorKey
import Derived.Deep.DrawnRows
import Derived.Deep.RegionLaw
import Derived.Deep.DeepCutAuto
import Derived.Laws.EntriesVeiled
set_option linter.unusedSimpArgs false
set_option linter.unusedVariables false
namespace Go.Proofs.YtheenlomlmbjaaaGreatDoor
open Go.RowKit

def setAl (dst : Nat → Option Nat) (V : Nat → Value) (l : Array Bool) : Nat → Act → Act
  | 0, a => a
  | m + 1, a => if l.getD m false = true then (setAl dst V l m a).put (dst m) (V m) else setAl dst V l m a
section
variable {dst : Nat → Option Nat} {V : Nat → Value}
theorem aput_size {a : Act} {d : Option Nat} {v : Value} : (a.put d v).tmps.size = a.tmps.size := by
  cases d with
  | none => rfl
  | some d => show (a.tmps.setIfInBounds d v).size = _; rw [Array.size_setIfInBounds]
theorem aput_same {a : Act} {d : Nat} {v : Value} (h : d < a.tmps.size) : (a.put (some d) v).eval (.tmp d) = v := by
  show (a.tmps.setIfInBounds d v).getD d undef = v
  simp [Array.getD_eq_getD_getElem?, Array.getElem?_setIfInBounds, h]
theorem aput_other {a : Act} {d : Option Nat} {t : Nat} {v : Value} (h : d ≠ some t) : (a.put d v).eval (.tmp t) = a.eval (.tmp t) := by
  cases d with
  | none => rfl
  | some d =>
    show (a.tmps.setIfInBounds d v).getD t undef = a.tmps.getD t undef
    simp only [Array.getD_eq_getD_getElem?, Array.getElem?_setIfInBounds]
    rw [if_neg (fun e => h (by rw [e]))]
theorem aput_comm (a : Act) {d e : Option Nat} (u v : Value) (h : d ≠ e ∨ d = none) : (a.put d u).put e v = (a.put e v).put d u := by
  cases d with
  | none => rfl
  | some d =>
    cases e with
    | none => rfl
    | some e =>
      show Act.mk ((a.tmps.setIfInBounds d u).setIfInBounds e v) a.defers = Act.mk ((a.tmps.setIfInBounds e v).setIfInBounds d u) a.defers
      congr 1
      exact Array.setIfInBounds_comm _ _ (fun e' => by
        rcases h with h | h
        · exact h (by rw [e'])
        · cases h)
theorem setAl_size (l : Array Bool) (a : Act) (m : Nat) : (setAl dst V l m a).tmps.size = a.tmps.size := by
  induction m with
  | zero => rfl
  | succ m ih => unfold setAl; split
                 · rw [aput_size, ih]
                 · exact ih
theorem setAl_other (l : Array Bool) (a : Act) (t : Nat) : ∀ m, (∀ j, j < m → dst j ≠ some t) → (setAl dst V l m a).eval (.tmp t) = a.eval (.tmp t)
  | 0, _ => rfl
  | m + 1, h => by
    unfold setAl; split
    · rw [aput_other (h m (by omega)), setAl_other l a t m (fun j hj => h j (by omega))]
    · exact setAl_other l a t m (fun j hj => h j (by omega))
theorem setAl_at (l : Array Bool) (a : Act) (j d : Nat) (hj : dst j = some d) (hl : l.getD j false = true) : ∀ m, j < m → (∀ i, i < m → dst i = some d → i = j) → d < a.tmps.size → (setAl dst V l m a).eval (.tmp d) = V j
  | 0, h, _, _ => by omega
  | m + 1, h, hi, hs => by
    by_cases e : j = m
    · subst e
      unfold setAl
      rw [if_pos hl, hj]
      exact aput_same (by rw [setAl_size]; exact hs)
    · unfold setAl; split
      · rw [aput_other (fun e' => e (hi m (by omega) e').symm), setAl_at l a j d hj hl m (by omega) (fun i h1 => hi i (by omega)) hs]
      · exact setAl_at l a j d hj hl m (by omega) (fun i h1 => hi i (by omega)) hs
theorem setAl_congr (a : Act) {V' : Nat → Value} {l l' : Array Bool} : ∀ m, (∀ j, j < m → l.getD j false = l'.getD j false) → (∀ j, j < m → l'.getD j false = true → V j = V' j) → setAl dst V l m a = setAl dst V' l' m a
  | 0, _, _ => rfl
  | m + 1, h, hV => by
    unfold setAl
    rw [h m (by omega), setAl_congr a m (fun j hj => h j (by omega)) (fun j hj => hV j (by omega))]
    split
    · rename_i h1; rw [hV m (by omega) h1]
    · rfl
theorem setAl_set (l : Array Bool) (a : Act) (i : Nat) (hs : i < l.size) (hf : l.getD i false = false) : ∀ m, i < m → (∀ j, j < m → dst j = dst i → j = i ∨ dst i = none) →
    setAl dst V (l.setIfInBounds i true) m a = (setAl dst V l m a).put (dst i) (V i)
  | 0, h, _ => by omega
  | m + 1, h, hi => by
    by_cases e : i = m
    · subst e
      have e1 : (l.setIfInBounds i true).getD i false = true := by rw [getD_set hs, if_pos rfl]
      unfold setAl
      have e2 := setAl_congr (dst := dst) (V := V) (V' := V) a (l := l.setIfInBounds i true) (l' := l) i (fun j hj => by rw [getD_set hs, if_neg (by omega)]) (fun _ _ _ => rfl)
      rw [if_pos e1, hf, if_neg (by decide), e2]
    · have e1 : (l.setIfInBounds i true).getD m false = l.getD m false := by rw [getD_set hs, if_neg (fun e' => e e'.symm)]
      unfold setAl
      rw [e1, setAl_set l a i hs hf m (by omega) (fun j h1 => hi j (by omega))]
      split
      · refine aput_comm _ _ _ ?_
        by_cases h2 : dst i = dst m
        · rcases hi m (by omega) h2.symm with h3 | h3
          · exact absurd h3.symm e
          · exact .inr h3
        · exact .inl h2
      · rfl
theorem setAl_none (a : Act) (n : Nat) : ∀ m, setAl dst V (Array.replicate n false) m a = a
  | 0 => rfl
  | m + 1 => by
    unfold setAl
    rw [if_neg (by rw [Array.getD_eq_getD_getElem?, Array.getElem?_replicate]; split <;> simp), setAl_none a n m]
end

theorem ready_lastB {ops : Array Oper} {l : Array Bool} (hs : l.size = ops.size) (hdep : ((List.range ops.size).all fun k => ((ops[k]?).map fun o => o.after.all fun e => !Region.binds .any e || decide (e.on < k)).getD true) = true)
    (hr : Region.ready .any ops l = []) : ∀ k, k < ops.size → l.getD k false = true := by
  intro k
  induction k using Nat.strongRecOn with
  | ind k ih =>
    intro hk
    have h := (List.filter_eq_nil_iff.1 hr) k (List.mem_range.2 hk)
    have hd := List.all_eq_true.1 hdep k (List.mem_range.2 hk)
    rw [Array.getElem?_eq_getElem hk] at h hd
    simp only [Option.map_some, Option.getD_some] at h hd
    have hall : (ops[k].after.all fun e => !Region.binds .any e || l.getD e.on false) = true := by
      rw [Array.all_eq_true'] at hd ⊢
      intro e he
      have he' := hd e he
      cases hb : Region.binds .any e with
      | false => rfl
      | true =>
        rw [hb] at he'
        have hlt : e.on < k := by simpa using he'
        rw [ih e.on hlt (by omega), Bool.or_true]
    rw [hall, Bool.and_true] at h
    rw [Array.getD_eq_getD_getElem?, Array.getElem?_eq_getElem (show k < l.size by omega)] at h ⊢
    simpa using h
theorem wp_region_val {P : Program} (hP : P.follows .mixedOrders = true) {id m : Nat} {ops : Array Oper} {Q : Exit → Act → World → Prop} (dst : Nat → Option Nat) (Pr : Nat → Value → World → Prop) (Rel : World → Prop) (dep : Nat → List Nat) (a0 : Act) (w0 : World) (hm : ops.size = m)
    (hlt : ∀ j d, j < m → dst j = some d → d < a0.tmps.size) (hinj : ∀ i j d, i < m → j < m → dst i = some d → dst j = some d → i = j)
    (hop : ∀ i (V : Nat → Value) a w, i < m → (∀ t, (∀ j, j < m → dst j ≠ some t) → a.eval (.tmp t) = a0.eval (.tmp t)) → (∀ j ∈ dep i, (∀ d, dst j = some d → a.eval (.tmp d) = V j) ∧ Pr j (V j) w) → Rel w →
      wpOp P ops Q i (fun a' w' => ∃ v, a' = a.put (dst i) v ∧ Pr i v w' ∧ Rel w' ∧ ∀ j u, Pr j u w → Pr j u w') a w)
    (hdm : ∀ i j, j ∈ dep i → j < m) (hdp : ∀ i l, i ∈ Region.ready .any ops l → ∀ j ∈ dep i, l.getD j false = true)
    (hdep : ((List.range ops.size).all fun k => ((ops[k]?).map fun o => o.after.all fun e => !Region.binds .any e || decide (e.on < k)).getD true) = true)
    (h0 : Rel w0.drew) (hend : ∀ V w, Rel w → (∀ j, j < m → Pr j (V j) w) → Q .normal (setAl dst V (Array.replicate m true) m a0) w) : (Code.region id ops true).wp P Q a0 w0 := by
  refine wp_region_any hP ?_
  have key : ∀ (fuel : Nat) (l : Array Bool) (a : Act) (w : World), (l.size = m ∧ Rel w ∧ ∃ V, a = setAl dst V l m a0 ∧ ∀ j, j < m → l.getD j false = true → Pr j (V j) w) → todo ops.size l ≤ fuel → wpAny P .any ops Q fuel l a w := by
    have fin : ∀ (l : Array Bool) (a : Act) (w : World), (l.size = m ∧ Rel w ∧ ∃ V, a = setAl dst V l m a0 ∧ ∀ j, j < m → l.getD j false = true → Pr j (V j) w) → Region.ready .any ops l = [] → Q .normal a w := by
      rintro l a w ⟨hs, hr, V, rfl, hp⟩ hrd
      have hall := ready_lastB (hs.trans hm.symm) hdep hrd
      have e : setAl dst V l m a0 = setAl dst V (Array.replicate m true) m a0 := by
        refine setAl_congr a0 m (fun j hj => ?_) (fun _ _ _ => rfl)
        rw [hall j (by omega), Array.getD_eq_getD_getElem?, Array.getElem?_replicate, if_pos hj]
        rfl
      rw [e]
      exact hend V w hr fun j hj => hp j hj (hall j (by omega))
    intro fuel
    induction fuel with
    | zero =>
      intro l a w hI hf
      have hr := todo_none (md := .any) (ops := ops) (l := l) (by omega)
      exact ⟨hr, fin l a w hI hr⟩
    | succ fuel ih =>
      intro l a w hI hf
      refine ⟨fun hr => fin l a w hI hr, fun i hi => ?_⟩
      obtain ⟨hs, hr, V, ha, hp⟩ := hI
      obtain ⟨hi1, hi2, -⟩ := ready_iff hi
      have hls : i < l.size := by omega
      have hfi : l.getD i false = false := by
        rw [Array.getD_eq_getD_getElem?, Array.getElem?_eq_getElem hls] at hi2 ⊢
        exact hi2
      have hdj := hdp i l hi
      refine wpOp_mono (fun a' w' h => ?_) (hop i V a w (by omega) (fun t ht => by rw [ha]; exact setAl_other l a0 t m ht) (fun j hj => ⟨fun d hd => by
        rw [ha]
        exact setAl_at l a0 j d hd (hdj j hj) m (hdm i j hj) (fun k hk hkd => hinj k j d hk (hdm i j hj) hkd hd) (hlt j d (hdm i j hj) hd), hp j (hdm i j hj) (hdj j hj)⟩) hr)
      obtain ⟨v, rfl, hv, hr', hk⟩ := h
      refine ih _ _ w' ⟨by rw [Array.size_setIfInBounds]; exact hs, hr', fun j => if j = i then v else V j, ?_, fun j hj hlj => ?_⟩ (by have := todo_set hi1 (by omega) hi2; omega)
      · rw [setAl_set l a0 i hls hfi m (by omega) (fun j hj e => by
          cases hd : dst i with
          | none => exact .inr rfl
          | some d => exact .inl (hinj j i d hj (by omega) (by rw [e, hd]) hd)), if_pos rfl, ha]
        congr 1
        exact setAl_congr a0 m (fun _ _ => rfl) (fun j _ hlj => by
          rw [if_neg]
          rintro rfl
          rw [hfi] at hlj; cases hlj)
      · by_cases e : j = i
        · subst e; simp only [if_true]; exact hv
        · simp only [if_neg e]
          rw [getD_set hls, if_neg e] at hlj
          exact hk j _ (hp j hj hlj)
  refine key _ _ a0 w0.drew ⟨by simp [hm], h0, fun _ => undef, (setAl_none a0 _ _).symm, fun j _ h => ?_⟩ ?_
  · rw [Array.getD_eq_getD_getElem?, Array.getElem?_replicate] at h; split at h <;> simp at h
  · unfold todo
    refine Nat.le_trans List.countP_le_length ?_
    simp

def OpJ (ops : Array Oper) (i : Nat) (d : Option Nat) (op : Op) : Prop := ∃ o, ops[i]? = some o ∧ o.guard = none ∧ o.dst = d ∧ o.op = op
section
variable {P : Program} {ops : Array Oper} {i : Nat} {d : Option Nat} {op : Op} {a : Act} {w w' : World} {K : Act → World → Prop} {Q : Exit → Act → World → Prop}
theorem opValP (ho : OpJ ops i d op) {y : Value} (hr : ∀ o : Oper, o.op = op → (execOp a.eval o).run P w = .ok (.value y) w') (h : K (a.put d y) w') : wpOp P ops Q i K a w := by
  obtain ⟨o, h1, h2, h3, h4⟩ := ho
  simp only [wpOp, h1]
  rw [if_pos (by simp [Region.wanted, h2])]
  left
  unfold Oper.wp
  rw [hr o h4]
  simp only [Oper.upon]
  rw [h3]; exact h
theorem opCallP {f : FuncId} (ho : OpJ ops i d op) {args : Array Value} (hr : ∀ o : Oper, o.op = op → (execOp a.eval o).run P w = .ok (.enter f args) w)
    (hc : Calls P f args w fun e w' => ∃ v, e = .returned v ∧ K (a.put d v) w') : wpOp P ops Q i K a w := by
  obtain ⟨o, h1, h2, h3, h4⟩ := ho
  simp only [wpOp, h1]
  rw [if_pos (by simp [Region.wanted, h2])]
  left
  unfold Oper.wp
  rw [hr o h4]
  simp only [Oper.upon]
  refine hc.mono ?_
  rintro e w' ⟨v, rfl, h⟩
  rw [h3]
  exact h
end

abbrev dstL (L : List (Option Nat)) (i : Nat) : Option Nat := L.getD i none
abbrev depL (D : List (List Nat)) (i : Nat) : List Nat := D.getD i []
theorem dstL_mem {L : List (Option Nat)} {j d : Nat} (h : dstL L j = some d) : some d ∈ L ∧ j < L.length := by
  unfold dstL at h
  rw [List.getD_eq_getElem?_getD] at h
  by_cases hj : j < L.length
  · rw [List.getElem?_eq_getElem hj] at h
    simp only [Option.getD_some] at h
    exact ⟨h ▸ List.getElem_mem hj, hj⟩
  · rw [List.getElem?_eq_none (by omega)] at h
    cases h
theorem dstL_lt {L : List (Option Nat)} {B : Nat} (h : (L.all fun o => o.all fun d => decide (d < B)) = true) {j d : Nat} (hd : dstL L j = some d) : d < B := by
  have := List.all_eq_true.1 h _ (dstL_mem hd).1
  simpa using this
theorem dstL_ne {L : List (Option Nat)} {t : Nat} (h : (L.all fun o => o != some t) = true) (j : Nat) : dstL L j ≠ some t := fun e => by
  have := List.all_eq_true.1 h _ (dstL_mem e).1
  simp at this
theorem dstL_inj {L : List (Option Nat)} (h : ((List.range L.length).all fun i => (List.range L.length).all fun j => decide (i = j) || dstL L i != dstL L j || (dstL L i == none)) = true) {i j d : Nat} (hi : dstL L i = some d) (hj : dstL L j = some d) : i = j := by
  have h1 := List.all_eq_true.1 (List.all_eq_true.1 h i (List.mem_range.2 (dstL_mem hi).2)) j (List.mem_range.2 (dstL_mem hj).2)
  rw [hi, hj] at h1
  simpa using h1
theorem depL_lt {D : List (List Nat)} {m : Nat} (h : (D.all fun l => l.all fun j => decide (j < m)) = true) {i j : Nat} (hj : j ∈ depL D i) : j < m := by
  unfold depL at hj
  rw [List.getD_eq_getElem?_getD] at hj
  by_cases hi : i < D.length
  · rw [List.getElem?_eq_getElem hi] at hj
    have := List.all_eq_true.1 (List.all_eq_true.1 h _ (List.getElem_mem hi)) j hj
    simpa using this
  · rw [List.getElem?_eq_none (by omega)] at hj
    simp at hj
theorem depL_ready {ops : Array Oper} {D : List (List Nat)} (h : ((List.range ops.size).all fun k => ((ops[k]?).map fun o => (depL D k).all fun j => o.after.any fun e => e.on == j && Region.binds .any e).getD true) = true) :
    ∀ i l, i ∈ Region.ready .any ops l → ∀ j ∈ depL D i, l.getD j false = true := by
  intro i l hi j hj
  obtain ⟨h1, -, h3⟩ := ready_iff hi
  have h4 := List.all_eq_true.1 h i (List.mem_range.2 h1)
  rw [Array.getElem?_eq_getElem h1] at h3 h4
  simp only [Option.map_some, Option.getD_some] at h3 h4
  have h5 := List.all_eq_true.1 h4 j hj
  rw [Array.any_eq_true'] at h5
  obtain ⟨e, he, h6⟩ := h5
  rw [Array.all_eq_true'] at h3
  have h7 := h3 e he
  simp only [Bool.and_eq_true, beq_iff_eq] at h6
  rw [h6.2, h6.1] at h7
  simpa using h7

end Go.Proofs.YtheenlomlmbjaaaGreatDoor

namespace Go.Proofs.YtheenlomlmbjaaaGreatDoor
open Go.RowKit

def TwoB (h : Nat) (l1 l2 : Bytes) (w : World) : Prop :=
  ∃ v1 v2, Bw 124 [] h v1 l1 w ∧ Bw 124 [] (h + 1) v2 l2 w ∧ (v1.ownBlock = none ∨ v1.ownBlock ≠ v2.ownBlock) ∧ (l1 = [] → v1.ownBlock = none) ∧ (l2 = [] → v2.ownBlock = none)
theorem TwoB.start (w : World) : TwoB w.heap.size [] [] ((w.alloc (.cells #[.pointer none, .slice none 0 0] 124)).alloc (.cells #[.pointer none, .slice none 0 0] 124)) := by
  have h1 : ((w.alloc (.cells #[.pointer none, .slice none 0 0] 124)).alloc (.cells #[.pointer none, .slice none 0 0] 124)).heap[w.heap.size]? = some (.cells #[.pointer none, .slice none 0 0] 124 (0, 0)) :=
    (Below.heap_alloc _ _ _ (by simp)).trans (heap_alloc_new w _)
  have h2 := heap_alloc_new (w.alloc (.cells #[.pointer none, .slice none 0 0] 124)) (.cells #[.pointer none, .slice none 0 0] 124)
  rw [World.size_alloc] at h2
  exact ⟨.slice none 0 0, .slice none 0 0, ⟨.pointer none, .inl rfl, h1, World.ownsRow_nil _ _ _ _⟩, ⟨.pointer none, .inl rfl, h2, World.ownsRow_nil _ _ _ _⟩, .inl rfl, fun _ => rfl, fun _ => rfl⟩
theorem TwoB.below {h : Nat} {l1 l2 : Bytes} {w w' : World} (ht : TwoB h l1 l2 w) (hb : Below w.heap.size w w') : TwoB h l1 l2 w' := by
  obtain ⟨v1, v2, a, b, c, d⟩ := ht
  exact ⟨v1, v2, a.below hb, b.below hb, c, d⟩
theorem own_new {v v' u : Value} {w : World} {b : Nat} {l : Bytes} {T : TypeId} {xs : List Value} (hu : Bw T xs b u l w) (hat : v'.ownBlock = v.ownBlock ∨ ∃ g, v'.ownBlock = some g ∧ w.heap.size ≤ g) (hd : u.ownBlock = none ∨ u.ownBlock ≠ v.ownBlock) :
    u.ownBlock = none ∨ u.ownBlock ≠ v'.ownBlock := by
  rcases hat with e | ⟨g, e, hg⟩
  · rw [e]; exact hd
  · rw [e]
    cases hk : u.ownBlock with
    | none => exact .inl rfl
    | some k => exact .inr (by intro e'; have := (hu.rowLt hk).2; simp at e'; omega)
theorem sym_d {a b : Option Nat} (h : a = none ∨ a ≠ b) : b = none ∨ b ≠ a := by
  rcases h with h | h
  · cases b with
    | none => exact .inl rfl
    | some k => exact .inr (by rw [h]; intro e; cases e)
  · exact .inr (fun e => h e.symm)

theorem write1_any {h : Nat} {l1 l2 : Bytes} {w : World} (m : Bytes) (ht : TwoB h l1 l2 w) (hlen : l1.length + m.length ≤ 1000000000000) (hm : m ≠ []) :
    Calls Tryz.prog 39 #[.pointer (some ⟨h, 0, none⟩), .string (bs m)] w fun e w' => e = .returned (.tuple #[.int .i64 m.length, .nilIface]) ∧ TwoB h (l1 ++ m) l2 w' ∧ Below h w w' := by
  obtain ⟨v1, v2, a, b, c, d1, d2⟩ := ht
  refine (writeString_any m a tokBuilder hlen).mono ?_
  rintro e w' ⟨rfl, v', a', hw⟩
  have hc2 := sym_d c
  refine ⟨rfl, ⟨v', v2, a', b.keep tokBuilder a tokBuilder hw (by omega) hc2, sym_d (own_new b hw.at_ hc2), ?_, d2⟩, a.wrBelow hw (Nat.le_refl _)⟩
  intro e; simp [hm] at e
theorem write2_any {h : Nat} {l1 l2 : Bytes} {w : World} (m : Bytes) (ht : TwoB h l1 l2 w) (hlen : l2.length + m.length ≤ 1000000000000) (hm : m ≠ []) :
    Calls Tryz.prog 39 #[.pointer (some ⟨h + 1, 0, none⟩), .string (bs m)] w fun e w' => e = .returned (.tuple #[.int .i64 m.length, .nilIface]) ∧ TwoB h l1 (l2 ++ m) w' ∧ Below h w w' := by
  obtain ⟨v1, v2, a, b, c, d1, d2⟩ := ht
  refine (writeString_any m b tokBuilder hlen).mono ?_
  rintro e w' ⟨rfl, v', b', hw⟩
  refine ⟨rfl, ⟨v1, v', a.keep tokBuilder b tokBuilder hw (by omega) c, b', own_new a hw.at_ c, d1, ?_⟩, (b.wrBelow hw (Nat.le_refl _)).mono (by omega)⟩
  intro e; simp [hm] at e
theorem string1_any {h : Nat} {l1 l2 : Bytes} {w : World} (ht : TwoB h l1 l2 w) :
    Calls Tryz.prog 41 #[.pointer (some ⟨h, 0, none⟩)] w fun e w' => e = .returned (.string (bs l1)) ∧ Below h w w' ∧ ∃ v2, Bw 124 [] (h + 1) v2 l2 w' ∧ (l2 = [] → v2.ownBlock = none) := by
  obtain ⟨v1, v2, a, b, c, d1, d2⟩ := ht
  refine (builderString_both a tokBuilder d1).mono ?_
  rintro e w' ⟨rfl, hw, -⟩
  exact ⟨rfl, a.wrBelow hw (Nat.le_refl _), v2, b.keep tokBuilder a tokBuilder hw (by omega) (sym_d c), d2⟩
theorem string2_any {h : Nat} {l2 : Bytes} {v2 : Value} {w : World} (b : Bw 124 [] (h + 1) v2 l2 w) (d2 : l2 = [] → v2.ownBlock = none) :
    Calls Tryz.prog 41 #[.pointer (some ⟨h + 1, 0, none⟩)] w fun e w' => e = .returned (.string (bs l2)) ∧ Below h w w' := by
  refine (builderString_both b tokBuilder d2).mono ?_
  rintro e w' ⟨rfl, hw, -⟩
  exact ⟨rfl, (b.wrBelow hw (Nat.le_refl _)).mono (by omega)⟩
end Go.Proofs.YtheenlomlmbjaaaGreatDoor

namespace Go.Proofs.YtheenlomlmbjaaaGreatDoor
open Go.RowKit
theorem uintL_ne (n : Nat) : uintL n ≠ [] := by
  intro h; have := uintL_pos n; rw [h] at this; simp at this
end Go.Proofs.YtheenlomlmbjaaaGreatDoor

namespace Go.Proofs.YtheenlomlmbjaaaGreatDoor
open Go.RowKit Go.Maps

set_option maxRecDepth 100000 in
theorem find1_any (B : Nat) (day : Int) (x : Pt) (w : World) (hB : w.cell? ⟨B, 0, none⟩ = some (.int .i64 day)) :
    Calls Tryz.prog 153 #[.agg #[.int .i64 x.1, .int .i64 x.2.1, .string (bs x.2.2)], .pointer (some ⟨B, 0, none⟩)] w fun e w' => e = .returned (.bool (x.1 == day)) ∧ Below w.heap.size w w' := by
  have hB2 := fun o => cell_alloc_ne (o := o) hB
  go_enter Tryz.func153, Tryz.ntmps153
  go_wp2_with fail
  go_ret
  exact ⟨rfl, (Below.refl _ _).alloc (Nat.le_refl _) _⟩

set_option maxRecDepth 100000 in
set_option maxHeartbeats 2000000 in
theorem idx_no (B : Nat) (u : Value) (P : List Pt) (day : Int) (w : World) (hu : RowG 3 encPt w u P) (hB : w.cell? ⟨B, 0, none⟩ = some (.int .i64 day)) (hno : ∀ x ∈ P, x.1 ≠ day) (hl : P.length ≤ 1000) :
    Calls Tryz.prog 152 #[u, .func (.func 153) #[] #[.pointer (some ⟨B, 0, none⟩)]] w fun e w' => e = .returned (.int .i64 (-1)) ∧ Below w.heap.size w w' := by
  have HU := Lib.hid hu
  have HNo := Lib.hid hno
  have HBc := Lib.hid hB
  have hBl := World.block_lt_of_cell? w _ hB
  obtain ⟨a, ca, rfl, a1, a2, -⟩ := hu
  obtain ⟨n, hn⟩ : ∃ n, n = P.length := ⟨_, rfl⟩
  have HN := Lib.hid hn
  rw [← hn] at a1 hl HU ⊢
  clear hno hn hB
  go_enter Tryz.func152, Tryz.ntmps152
  go_wp2_with fail
  go_loopw [8] (fun x wr => ∃ k : Nat, x = .int .i64 k ∧ k ≤ n ∧ Below w.heap.size w wr) (fun x _ => n - (intOf x).toNat)
  case atStart => exact ⟨0, rfl, Nat.zero_le _, Below.refl _ _⟩
  case round =>
    obtain ⟨k, rfl, hk, hbl⟩ := hrel
    have HB := Lib.hid hbl
    by_cases hlt : k < n
    · have hkP : k < P.length := by rw [← HN.out]; exact hlt
      obtain ⟨b, o, rfl, hb, hc⟩ := (HU.out.below hbl).at_ (fun _ => rfl) (0, 0, []) hkP
      have c0 := hc 0 (by omega)
      have c1 := hc 1 (by omega)
      have c2 := hc 2 (by omega)
      have hne := HNo.out _ (getD_mem' (0, 0, []) hkP)
      have HC := Lib.hid (find1_any B day (P.getD k (0, 0, [])) wr ((hbl.cell (p := ⟨B, 0, none⟩) hBl).trans HBc.out))
      rw [show ((P.getD k (0, 0, [])).1 == day) = false by simpa using hne] at HC
      simp only [encPt, Nat.add_zero, List.getElem?_cons_zero, List.getElem?_cons_succ] at c0 c1 c2
      generalize P.getD k (0, 0, []) = x at *
      obtain ⟨x0, x1, x2⟩ := x
      simp only at c0 c1 c2 HC
      clear hc hbl hne hkP
      go_wp2_with fail
      refine HC.out.mono ?_
      rintro e w2 ⟨rfl, hb2⟩
      have HB2 := Lib.hid (HB.out.trans (hb2.mono HB.out.size))
      clear hb2 c0 c1 c2 hb HC
      go_wp2_with fail
      go_roundw
      case rel => exact ⟨k + 1, by go_num, by omega, HB2.out⟩
      case measure => simp [intOf]; omega
    · have hke : n = k := by omega
      subst hke
      clear hbl
      go_wp2_with fail
      go_ret
      exact ⟨rfl, HB.out⟩

set_option maxRecDepth 100000 in
set_option maxHeartbeats 2000000 in
theorem idx_yes (B : Nat) (u : Value) (P : List Pt) (day : Int) (i : Nat) (w : World) (hu : RowG 3 encPt w u P) (hB : w.cell? ⟨B, 0, none⟩ = some (.int .i64 day)) (hi : i < P.length) (hid : (P.getD i (0, 0, [])).1 = day) (hno : ∀ j, j < i → (P.getD j (0, 0, [])).1 ≠ day) (hl : P.length ≤ 1000) :
    Calls Tryz.prog 152 #[u, .func (.func 153) #[] #[.pointer (some ⟨B, 0, none⟩)]] w fun e w' => e = .returned (.int .i64 i) ∧ Below w.heap.size w w' := by
  have HU := Lib.hid hu
  have HNo := Lib.hid hno
  have HId := Lib.hid hid
  have HBc := Lib.hid hB
  have hBl := World.block_lt_of_cell? w _ hB
  obtain ⟨a, ca, rfl, a1, a2, -⟩ := hu
  obtain ⟨n, hn⟩ : ∃ n, n = P.length := ⟨_, rfl⟩
  have HN := Lib.hid hn
  rw [← hn] at a1 hl HU hi ⊢
  clear hno hn hB hid
  go_enter Tryz.func152, Tryz.ntmps152
  go_wp2_with fail
  go_loopw [8] (fun x wr => ∃ k : Nat, x = .int .i64 k ∧ k ≤ i ∧ Below w.heap.size w wr) (fun x _ => n - (intOf x).toNat)
  case atStart => exact ⟨0, rfl, Nat.zero_le _, Below.refl _ _⟩
  case round =>
    obtain ⟨k, rfl, hk, hbl⟩ := hrel
    have HB := Lib.hid hbl
    have hlt : k < n := by omega
    have hkP : k < P.length := by rw [← HN.out]; exact hlt
    obtain ⟨b, o, rfl, hb, hc⟩ := (HU.out.below hbl).at_ (fun _ => rfl) (0, 0, []) hkP
    have c0 := hc 0 (by omega)
    have c1 := hc 1 (by omega)
    have c2 := hc 2 (by omega)
    have HC := Lib.hid (find1_any B day (P.getD k (0, 0, [])) wr ((hbl.cell (p := ⟨B, 0, none⟩) hBl).trans HBc.out))
    simp only [encPt, Nat.add_zero, List.getElem?_cons_zero, List.getElem?_cons_succ] at c0 c1 c2
    by_cases hki : k = i
    · subst hki
      rw [show ((P.getD k (0, 0, [])).1 == day) = true by simpa using HId.out] at HC
      generalize P.getD k (0, 0, []) = x at *
      obtain ⟨x0, x1, x2⟩ := x
      simp only at c0 c1 c2 HC
      clear hc hbl hkP
      go_wp2_with fail
      refine HC.out.mono ?_
      rintro e w2 ⟨rfl, hb2⟩
      have HB2 := Lib.hid (HB.out.trans (hb2.mono HB.out.size))
      clear hb2 c0 c1 c2 hb HC
      go_wp2_with fail
      go_ret
      exact ⟨rfl, HB2.out⟩
    · rw [show ((P.getD k (0, 0, [])).1 == day) = false by simpa using HNo.out k (by omega)] at HC
      generalize P.getD k (0, 0, []) = x at *
      obtain ⟨x0, x1, x2⟩ := x
      simp only at c0 c1 c2 HC
      clear hc hbl hkP
      go_wp2_with fail
      refine HC.out.mono ?_
      rintro e w2 ⟨rfl, hb2⟩
      have HB2 := Lib.hid (HB.out.trans (hb2.mono HB.out.size))
      clear hb2 c0 c1 c2 hb HC
      go_wp2_with fail
      go_roundw
      case rel => exact ⟨k + 1, by go_num, by omega, HB2.out⟩
      case measure => simp [intOf]; omega

def manV (P : Value) (nx pa : Int) : Value := .agg #[P, .int .i64 nx, .int .i64 pa, .bool false, .int .i64 0, .int .i64 0, .int .i64 0]
def manC (P : Value) (nx pa : Int) : Array Value := #[P, .int .i64 nx, .int .i64 pa, .bool false, .int .i64 0, .int .i64 0, .int .i64 0]

set_option maxRecDepth 100000 in
set_option maxHeartbeats 2000000 in
theorem find_no (u : Value) (nx pa : Int) (P : List Pt) (day : Int) (w : World) (hu : RowG 3 encPt w u P) (hno : ∀ x ∈ P, x.1 ≠ day) (hl : P.length ≤ 1000) :
    Calls Tryz.prog 82 #[manV u nx pa, .int .i64 day] w fun e w' => e = .returned (.tuple #[.agg #[.int .i64 0, .int .i64 0, .string (bs [])], .bool false]) ∧ Below w.heap.size w w' := by
  have HU := Lib.hid hu
  obtain ⟨a, ca, rfl, -⟩ := hu
  have HX := Lib.hid (fun W (hb : Below w.heap.size w W) B h => idx_no B _ P day W (HU.out.below hb) h hno hl)
  unfold manV
  clear hno
  go_enter Tryz.func82, Tryz.ntmps82
  go_wp2_with fail
  have hw3 := heap3 w (.cells #[.slice a P.length ca, .int .i64 nx, .int .i64 pa, .bool false, .int .i64 0, .int .i64 0, .int .i64 0] 91) (.cells #[.int .i64 day] 3) (.cells #[.int .i64 0, .int .i64 0, .string (bs [])] 139)
  generalize ((w.alloc (.cells #[.slice a P.length ca, .int .i64 nx, .int .i64 pa, .bool false, .int .i64 0, .int .i64 0, .int .i64 0] 91)).alloc (.cells #[.int .i64 day] 3)).alloc (.cells #[.int .i64 0, .int .i64 0, .string (bs [])] 139) = W at hw3 ⊢
  obtain ⟨-, h1, h2, h3, h4⟩ := hw3
  have HB := Lib.hid h4
  refine (HX.out W h4 _ (by rw [Lib.cell_of_heap h1]; rfl)).mono ?_
  rintro e w2 ⟨rfl, hb2⟩
  have h2' := (hb2.block _ (lt_of_heap h2)).trans h2
  have r0 : w2.cell? ⟨w.heap.size + 2, 0, none⟩ = some (.int .i64 0) := by rw [Lib.cell_of_heap h2']; rfl
  have r1 : w2.cell? ⟨w.heap.size + 2, 1, none⟩ = some (.int .i64 0) := by rw [Lib.cell_of_heap h2']; rfl
  have r2 : w2.cell? ⟨w.heap.size + 2, 2, none⟩ = some (.string (bs [])) := by rw [Lib.cell_of_heap h2']; rfl
  have f0 := Lib.frozen_of_heap h2' 0
  have f1 := Lib.frozen_of_heap h2' 1
  have f2 := Lib.frozen_of_heap h2' 2
  have HB2 := Lib.hid (h4.trans (hb2.mono h4.size))
  clear h1 h2 h3 h4 h2' hb2 HX HU
  go_wp2_with fail
  exact bodyPost_ret (v := .tuple #[.agg #[.int .i64 0, .int .i64 0, .string (bs [])], .bool false]) (by simp [results, Tryz.results82, go_sem, r0, r1, r2]) rfl ⟨rfl, ((HB2.out.setCell (by simp; omega) _).setCell (by simp; omega) _).setCell (by simp; omega) _⟩

set_option maxRecDepth 100000 in
set_option maxHeartbeats 2000000 in
theorem find_yes (u : Value) (nx pa : Int) (P : List Pt) (day : Int) (i : Nat) (w : World) (hu : RowG 3 encPt w u P) (hi : i < P.length) (hid : (P.getD i (0, 0, [])).1 = day) (hno : ∀ j, j < i → (P.getD j (0, 0, [])).1 ≠ day) (hl : P.length ≤ 1000) :
    Calls Tryz.prog 82 #[manV u nx pa, .int .i64 day] w fun e w' => e = .returned (.tuple #[.agg #[.int .i64 (P.getD i (0, 0, [])).1, .int .i64 (P.getD i (0, 0, [])).2.1, .string (bs (P.getD i (0, 0, [])).2.2)], .bool true]) ∧ Below w.heap.size w w' := by
  have HU := Lib.hid hu
  obtain ⟨a, ca, rfl, a1, a2, -⟩ := hu
  have HX := Lib.hid (fun W (hb : Below w.heap.size w W) B h => idx_yes B _ P day i W (HU.out.below hb) h hi hid hno hl)
  have hi0 : (0 : Int) ≤ (i : Int) := by omega
  have hi1 : (i : Int) < (P.length : Int) := by omega
  have hll : P.length ≤ 9223372036854775807 := by omega
  unfold manV
  clear hno hid
  go_enter Tryz.func82, Tryz.ntmps82
  go_wp2_with fail
  have hw3 := heap3 w (.cells #[.slice a P.length ca, .int .i64 nx, .int .i64 pa, .bool false, .int .i64 0, .int .i64 0, .int .i64 0] 91) (.cells #[.int .i64 day] 3) (.cells #[.int .i64 0, .int .i64 0, .string (bs [])] 139)
  generalize ((w.alloc (.cells #[.slice a P.length ca, .int .i64 nx, .int .i64 pa, .bool false, .int .i64 0, .int .i64 0, .int .i64 0] 91)).alloc (.cells #[.int .i64 day] 3)).alloc (.cells #[.int .i64 0, .int .i64 0, .string (bs [])] 139) = W at hw3 ⊢
  obtain ⟨h0, h1, h2, h3, h4⟩ := hw3
  refine (HX.out W h4 _ (by rw [Lib.cell_of_heap h1]; rfl)).mono ?_
  rintro e w2 ⟨rfl, hb2⟩
  have h0' := (hb2.block _ (lt_of_heap h0)).trans h0
  have h2' := (hb2.block _ (lt_of_heap h2)).trans h2
  have m0 : w2.cell? ⟨w.heap.size, 0, none⟩ = some (.slice a P.length ca) := by rw [Lib.cell_of_heap h0']; rfl
  have r0 : w2.cell? ⟨w.heap.size + 2, 0, none⟩ = some (.int .i64 0) := by rw [Lib.cell_of_heap h2']; rfl
  have r1 : w2.cell? ⟨w.heap.size + 2, 1, none⟩ = some (.int .i64 0) := by rw [Lib.cell_of_heap h2']; rfl
  have r2 : w2.cell? ⟨w.heap.size + 2, 2, none⟩ = some (.string (bs [])) := by rw [Lib.cell_of_heap h2']; rfl
  have f0 := Lib.frozen_of_heap h2' 0
  have f1 := Lib.frozen_of_heap h2' 1
  have f2 := Lib.frozen_of_heap h2' 2
  have HB2 := Lib.hid (h4.trans (hb2.mono h4.size))
  obtain ⟨b, o, rfl, hb, hc⟩ := (HU.out.below HB2.out).at_ (fun _ => rfl) (0, 0, []) hi
  have c0 := hc 0 (by omega)
  have c1 := hc 1 (by omega)
  have c2 := hc 2 (by omega)
  simp only [encPt, Nat.add_zero, List.getElem?_cons_zero, List.getElem?_cons_succ] at c0 c1 c2
  obtain ⟨x0, x1, x2, hx⟩ : ∃ x0 x1 x2, P.getD i (0, 0, []) = (x0, x1, x2) := ⟨_, _, _, rfl⟩
  have HXe := Lib.hid hx
  rw [hx] at c0 c1 c2
  simp only at c0 c1 c2
  clear hx
  clear h0 h1 h2 h3 h4 h0' h2' hb2 HX HU hc hb
  go_wp2_with fail
  exact bodyPost_ret (v := .tuple #[.agg #[.int .i64 x0, .int .i64 x1, .string (bs x2)], .bool true]) (by simp [results, Tryz.results82, go_sem, r0, r1, r2]) rfl ⟨by rw [HXe.out], ((HB2.out.setCell (by simp; omega) _).setCell (by simp; omega) _).setCell (by simp; omega) _⟩

end Go.Proofs.YtheenlomlmbjaaaGreatDoor

namespace Go.Proofs.YtheenlomlmbjaaaGreatDoor
open Go.RowKit

theorem hd_R {w : World} {b off : Nat} {x : Rw} (h : ∀ j u, (encRw x)[j]? = some u → w.cell? ⟨b, off + j, none⟩ = some u) :
    w.cell? ⟨b, off, none⟩ = some (.int .i64 x.1) ∧ w.cell? ⟨b, off + 1, none⟩ = some (.int .i64 x.2.1) ∧ w.cell? ⟨b, off + 2, none⟩ = some (.int .i64 x.2.2) := ⟨h 0 _ rfl, h 1 _ rfl, h 2 _ rfl⟩
set_option maxRecDepth 100000 in
theorem tl_R (b off n cap : Nat) (h1 : n + 1 ≤ cap) (h2 : cap ≤ 9223372036854775807) (w : World) :
    (Instr.sliceAt 105 (.slice (some ⟨b, off, none⟩) (n + 1) cap) (some (.int .i64 1)) none none).run Tryz.prog w = .ok (.slice (if cap = 1 then some ⟨b, off, none⟩ else some ⟨b, off + 3, none⟩) n (cap - 1)) w := by
  rw [run_sliceAt_slice _ _ _ _ _ _ rfl, run_slice_l _ _ _ _ _ rfl _ _ (by omega) (by omega)]
  rfl
theorem keepMR {w' w'' : World} {b c o p : Nat} {x0 x1 x2 y0 y1 y2 : Value} (h : w'.cell? ⟨b, o, none⟩ = some x0 ∧ w'.cell? ⟨b, o + 1, none⟩ = some x1 ∧ w'.cell? ⟨b, o + 2, none⟩ = some x2 ∧ w'.cell? ⟨c, p, none⟩ = some y0 ∧ w'.cell? ⟨c, p + 1, none⟩ = some y1 ∧ w'.cell? ⟨c, p + 2, none⟩ = some y2)
    (hb : Below w'.heap.size w' w'') : w''.cell? ⟨b, o, none⟩ = some x0 ∧ w''.cell? ⟨b, o + 1, none⟩ = some x1 ∧ w''.cell? ⟨b, o + 2, none⟩ = some x2 ∧ w''.cell? ⟨c, p, none⟩ = some y0 ∧ w''.cell? ⟨c, p + 1, none⟩ = some y1 ∧ w''.cell? ⟨c, p + 2, none⟩ = some y2 := by
  obtain ⟨h0, h1, h2, h3, h4, h5⟩ := h
  exact ⟨(hb.cell (World.block_lt_of_cell? w' _ h0)).trans h0, (hb.cell (World.block_lt_of_cell? w' _ h1)).trans h1, (hb.cell (World.block_lt_of_cell? w' _ h2)).trans h2, (hb.cell (World.block_lt_of_cell? w' _ h3)).trans h3, (hb.cell (World.block_lt_of_cell? w' _ h4)).trans h4, (hb.cell (World.block_lt_of_cell? w' _ h5)).trans h5⟩
theorem keepOR {w' w'' : World} {b o B : Nat} {x0 x1 x2 : Value} (h : w'.cell? ⟨b, o, none⟩ = some x0 ∧ w'.cell? ⟨b, o + 1, none⟩ = some x1 ∧ w'.cell? ⟨b, o + 2, none⟩ = some x2)
    (hb : Below B w' w'') (hlt : b < B) : w''.cell? ⟨b, o, none⟩ = some x0 ∧ w''.cell? ⟨b, o + 1, none⟩ = some x1 ∧ w''.cell? ⟨b, o + 2, none⟩ = some x2 := by
  obtain ⟨h0, h1, h2⟩ := h
  exact ⟨(hb.cell (p := ⟨b, o, none⟩) hlt).trans h0, (hb.cell (p := ⟨b, o + 1, none⟩) hlt).trans h1, (hb.cell (p := ⟨b, o + 2, none⟩) hlt).trans h2⟩

def MRelR (la lb : List Rw) (w : World) (a b o : Value) (wr : World) : Prop :=
  ∃ la' lb' acc : List Rw, RowG 3 encRw w a la' ∧ RowG 3 encRw w b lb' ∧ OwnR 119 3 encRw wr w.heap.size o acc ∧ acc ++ mergeF cmpRw la' lb' = mergeF cmpRw la lb ∧ acc.length + la'.length + lb'.length ≤ la.length + lb.length ∧ Below w.heap.size w wr

set_option maxRecDepth 100000 in
set_option maxHeartbeats 8000000 in
attribute [local go_sem ↓] Go.wp_at_zero Go.wp_at_succ in
theorem mergeR_any (a b : Value) (la lb : List Rw) (w : World) (ha : RowG 3 encRw w a la) (hb : RowG 3 encRw w b lb) (hl : la.length ≤ 100000) (hl2 : lb.length ≤ 100000) :
    Calls Tryz.prog 99 #[a, b, rowF] w fun e w' => ∃ u, e = .returned u ∧ OwnR 119 3 encRw w' w.heap.size u (mergeF cmpRw la lb) ∧ Below w.heap.size w w' := by
  have HA := Lib.hid ha
  have HB := Lib.hid hb
  obtain ⟨aa, ca, rfl, a1, a2, -, -⟩ := ha.src (fun _ => rfl)
  obtain ⟨ab, cb, rfl, b1, b2, -, -⟩ := hb.src (fun _ => rfl)
  clear ha hb
  unfold rowF
  obtain ⟨z0, hz, hzk⟩ := tyRow.info
  obtain ⟨i0, hi, hz0, hz1, hz2⟩ := info_parts hz
  have hw : IntKind.i64.wrap ((la.length : Int) + lb.length) = ((la.length + lb.length : Nat) : Int) := by rw [IntWalk.i64_in _ (by omega)]; omega
  go_enter Tryz.func99, Tryz.ntmps99
  go_wp2_with (at_make; refine wpList_make_own _ rfl _ _ 105 rfl w.heap.size 119 i0 _ 3 Tryz.underlying105 hi hz0 hz1 _ _ _ (la.length + lb.length) rfl rfl (by first | rfl | simp) (by rw [hz2]; omega) (by simp only [maxLen]; omega) (Nat.le_refl _) ?_; intro w1 hown1 hgrow1)
  have HS0 := Lib.hid (show MRelR la lb w (.slice aa la.length ca) (.slice ab lb.length cb) (.slice (some ⟨w.heap.size, 0, none⟩) 0 (la.length + lb.length)) w1 from
    ⟨la, lb, [], HA.out, HB.out, hown1, rfl, by simp, (Below.refl w.heap.size w).grown hgrow1 (Nat.le_refl _) (fun k hk => by cases hk)⟩)
  clear hown1 hgrow1 HA HB a1 a2 b1 b2 hw hz hzk hi hz0 hz1 hz2
  go_loopw [0, 1, 7] (fun a b o wr => MRelR la lb w a b o wr) (fun a b _ _ => lenG a + lenG b)
  case atStart => exact HS0.out
  case round =>
    clear HS0
    obtain ⟨la', lb', acc, hra, hrb, hfit, hacc, hlen, hbl⟩ := hrel
    have HBL := Lib.hid hbl
    have HAC := Lib.hid hacc
    have HRA := Lib.hid hra
    have HRB := Lib.hid hrb
    have HO := Lib.hid hfit
    have hsz := hbl.size
    have hend : (la' = [] ∨ lb' = []) ∨ ∃ x ra y rb, la' = x :: ra ∧ lb' = y :: rb := by
      rcases la' with _ | ⟨x, ra⟩
      · exact .inl (.inl rfl)
      · rcases lb' with _ | ⟨y, rb⟩
        · exact .inl (.inr rfl)
        · exact .inr ⟨x, ra, y, rb, rfl, rfl⟩
    rcases hend with hend | ⟨x, ra, y, rb, rfl, rfl⟩
    · have HF := Lib.hid (show acc ++ la' ++ lb' = mergeF cmpRw la lb by
        rw [← hacc]
        rcases hend with rfl | rfl
        · rw [mergeF_nil]; simp
        · rw [mergeF_nil']; simp)
      have HGA := Lib.hid (hra.below hbl)
      obtain ⟨aa, ca, rfl, a1, a2, -, -⟩ := hra.src (fun _ => rfl)
      obtain ⟨ab, cb, rfl, b1, b2, -, -⟩ := hrb.src (fun _ => rfl)
      have hla : la'.length ≤ 200000 := by omega
      have hlb : lb'.length ≤ 200000 := by omega
      have hlo : acc.length ≤ 200000 := by omega
      have hcase : (la'.length = 0) ∨ (0 < la'.length ∧ lb'.length = 0) := by
        rcases hend with rfl | rfl
        · exact .inl rfl
        · rcases Nat.eq_zero_or_pos la'.length with h | h
          · exact .inl h
          · exact .inr ⟨h, rfl⟩
      clear hacc hra hrb hfit hbl hlen hend
      have HT1 := Lib.hid (fun w3 (h : Below w.heap.size wr w3) => HRB.out.below (HBL.out.trans h))
      rcases hcase with h | ⟨h, h2⟩
      · have d1 : decide (0 < la'.length) = false := by rw [h]; rfl
        clear h
        go_wp2_with (first
          | (at_builtin; refine appG tyRow _ rfl (.tmp 53) (.tmp 54) rfl w.heap.size _ _ acc la' rfl rfl HO.out HGA.out (by omega) hsz ?_; intro v2 w2 hown2 hbel2; have HO2 := Lib.hid hown2; have HB2 := Lib.hid hbel2; have HS2 := Lib.hid (Nat.le_trans hsz hbel2.size); clear hown2 hbel2)
          | (at_builtin; refine appG tyRow _ rfl (.tmp 55) (.tmp 56) rfl w.heap.size _ _ (acc ++ la') lb' rfl rfl HO2.out (HT1.out _ HB2.out) (by simp; omega) HS2.out ?_; intro v3 w3 hown3 hbel3))
        go_ret
        exact ⟨_, rfl, by rw [← HF.out]; exact hown3, (HBL.out.trans HB2.out).trans hbel3⟩
      · have d1 : decide (0 < la'.length) = true := by simp; omega
        have d2 : decide (0 < lb'.length) = false := by rw [h2]; rfl
        clear h h2
        go_wp2_with (first
          | (at_builtin; refine appG tyRow _ rfl (.tmp 53) (.tmp 54) rfl w.heap.size _ _ acc la' rfl rfl HO.out HGA.out (by omega) hsz ?_; intro v2 w2 hown2 hbel2; have HO2 := Lib.hid hown2; have HB2 := Lib.hid hbel2; have HS2 := Lib.hid (Nat.le_trans hsz hbel2.size); clear hown2 hbel2)
          | (at_builtin; refine appG tyRow _ rfl (.tmp 55) (.tmp 56) rfl w.heap.size _ _ (acc ++ la') lb' rfl rfl HO2.out (HT1.out _ HB2.out) (by simp; omega) HS2.out ?_; intro v3 w3 hown3 hbel3))
        go_ret
        exact ⟨_, rfl, by rw [← HF.out]; exact hown3, (HBL.out.trans HB2.out).trans hbel3⟩
    · obtain ⟨b, off, ca, rfl, a1, a2, hbs, hcx, htx⟩ := hra.cons
      obtain ⟨c, off2, cb, rfl, b1, b2, hcs, hcy, hty⟩ := hrb.cons
      have HTA := Lib.hid (htx rfl)
      have HTB := Lib.hid (hty rfl)
      have hta := tl_R b off ra.length ca a1 a2
      have htb := tl_R c off2 rb.length cb b1 b2
      have HX := Lib.hid (hd_R (fun j u hj => (hbl.cell (p := ⟨b, off + j, none⟩) hbs).trans (hcx j u hj)))
      have HY := Lib.hid (hd_R (fun j u hj => (hbl.cell (p := ⟨c, off2 + j, none⟩) hcs).trans (hcy j u hj)))
      obtain ⟨ta, hta1⟩ : ∃ t, t = (if ca = 1 then some (⟨b, off, none⟩ : Addr) else some ⟨b, off + 3, none⟩) := ⟨_, rfl⟩
      obtain ⟨tb, htb1⟩ : ∃ t, t = (if cb = 1 then some (⟨c, off2, none⟩ : Addr) else some ⟨c, off2 + 3, none⟩) := ⟨_, rfl⟩
      rw [← hta1] at hta HTA
      rw [← htb1] at htb HTB
      clear hta1 htb1 hcx hcy htx hty hra hrb
      have HC := Lib.hid (fun w => byRow_any x y w)
      have hlen' : acc.length + ra.length + rb.length + 2 ≤ la.length + lb.length := by simp at hlen; omega
      have HLt := Lib.hid (fun h : cmpRw x y < 0 => show acc ++ [x] ++ mergeF cmpRw ra (y :: rb) = mergeF cmpRw la lb by rw [← hacc, mergeF_lt h]; simp)
      have HEq := Lib.hid (fun h : cmpRw x y = 0 => show acc ++ [y] ++ mergeF cmpRw ra rb = mergeF cmpRw la lb by rw [← hacc, mergeF_eq h]; simp)
      have HGt := Lib.hid (fun h : 0 < cmpRw x y => show acc ++ [y] ++ mergeF cmpRw (x :: ra) rb = mergeF cmpRw la lb by rw [← hacc, mergeF_gt h]; simp)
      clear hlen hacc HAC
      have hbw := Nat.lt_of_lt_of_le hbs hsz
      have hcw := Nat.lt_of_lt_of_le hcs hsz
      have HBS := Lib.hid hbs
      have HCS := Lib.hid hcs
      clear hbs hcs
      have HBx := Lib.hid (fun W (h : Below wr.heap.size wr W) => HBL.out.trans (h.mono hsz))
      have HOx := Lib.hid (fun W (h : Below wr.heap.size wr W) => HO.out.below h)
      obtain ⟨x0, x1, x2⟩ := x
      obtain ⟨y0, y1, y2⟩ := y
      obtain ⟨cx0, cx1, cx2⟩ := HX.out
      obtain ⟨cy0, cy1, cy2⟩ := HY.out
      clear HX HY
      simp only at cx0 cx1 cx2 cy0 cy1 cy2 HC
      try (simp only [show ∀ a b : Rw, cmpRw a b = cmpRw a b from fun _ _ => rfl] at HC)
      have HCC := Lib.hid (show ∀ z, cmpRw (x0, x1, x2) (y0, y1, y2) = z → cmpRw (x0, x1, x2) (y0, y1, y2) = z from fun _ h => h)
      change Hid (∀ w, Calls Tryz.prog 100 #[.agg #[.int .i64 x0, .int .i64 x1, .int .i64 x2], .agg #[.int .i64 y0, .int .i64 y1, .int .i64 y2]] w fun e w' => e = .returned (.int .i64 (cmpRw (x0, x1, x2) (y0, y1, y2))) ∧ Below w.heap.size w w') at HC
      generalize cmpRw (x0, x1, x2) (y0, y1, y2) = cc at *
      have hsgn : cc < 0 ∨ cc = 0 ∨ 0 < cc := by omega
      clear hbl hfit HCC
      go_wp2_with fail
      go_region_held3 (fun w' => w'.cell? ⟨b, off, none⟩ = some (.int .i64 x0) ∧ w'.cell? ⟨b, off + 1, none⟩ = some (.int .i64 x1) ∧ w'.cell? ⟨b, off + 2, none⟩ = some (.int .i64 x2) ∧ w'.cell? ⟨c, off2, none⟩ = some (.int .i64 y0) ∧ w'.cell? ⟨c, off2 + 1, none⟩ = some (.int .i64 y1) ∧ w'.cell? ⟨c, off2 + 2, none⟩ = some (.int .i64 y2))
        (first | exact keepMR (by assumption) hb1 | go_keep)
        (first | (go_at_call 100; refine (HC.out _).mono ?_; rintro e w2 ⟨rfl, hb1⟩))
      have hd1 := drE0 hb1
      have HB2 := Lib.hid (HBx.out _ hd1)
      have HO2 := Lib.hid (HOx.out _ hd1)
      have HS2 := Lib.hid (Nat.le_trans hsz hd1.size)
      have cx0 := (hd1.cell (p := ⟨b, off, none⟩) hbw).trans cx0
      have cx1 := (hd1.cell (p := ⟨b, off + 1, none⟩) hbw).trans cx1
      have cx2 := (hd1.cell (p := ⟨b, off + 2, none⟩) hbw).trans cx2
      have cy0 := (hd1.cell (p := ⟨c, off2, none⟩) hcw).trans cy0
      have cy1 := (hd1.cell (p := ⟨c, off2 + 1, none⟩) hcw).trans cy1
      have cy2 := (hd1.cell (p := ⟨c, off2 + 2, none⟩) hcw).trans cy2
      clear hb1 hd1 HBx HOx HC HBL HO hbw hcw
      rcases hsgn with h | h | h
      · have hc1 : decide (cc < 0) = true := by simpa using h
        have HR := Lib.hid (HLt.out h)
        clear h HLt HEq HGt
        go_wp2_with fail
        go_region_held3 (fun w' => w'.cell? ⟨b, off, none⟩ = some (.int .i64 x0) ∧ w'.cell? ⟨b, off + 1, none⟩ = some (.int .i64 x1) ∧ w'.cell? ⟨b, off + 2, none⟩ = some (.int .i64 x2))
          (first | assumption | exact keepOR (by assumption) hnb.out HBS.out | exact keepOR (by assumption) ((Below.refl _ _).alloc (Nat.le_refl _) _) (World.block_lt_of_cell? _ _ (And.left (by assumption))) | go_keep)
          ((refine stepApp1 tyRow _ (by rfl) (.tmp 33) (.tmp 37) (by rfl) w.heap.size _ acc (x0, x1, x2) w2.heap.size (by rfl) (by rfl) #[.int .i64 x0, .int .i64 x1, .int .i64 x2] rfl (by first | exact heap_alloc_new .. | (simp; done)) (HO2.out.below (by first | exact (Below.refl _ _).alloc (Nat.le_refl _) _ | exact ((Below.refl _ _).alloc (Nat.le_refl _) _).drew)) (by have := HS2.out; simp; omega) (by omega) ?_; intro g' cap' w3 hown3 hbel3 hgr3 _; have hnb := Lib.hid hbel3))
        have HO3 := Lib.hid hown3
        have HB3 := Lib.hid ((HB2.out.trans (by first | exact ((Below.refl _ _).alloc HS2.out _) | exact (((Below.refl _ _).alloc HS2.out _).drew))).trans hbel3)
        clear hown3 hbel3 hgr3
        go_wp2_with fail
        go_roundw
        case rel => exact ⟨ra, (y0, y1, y2) :: rb, acc ++ [(x0, x1, x2)], HTA.out, HRB.out, by simpa using HO3.out, HR.out, by simp; omega, HB3.out⟩
        case measure => first | (simp [lenG]; done) | (simp [lenG]; omega)
      · subst h
        have HR := Lib.hid (HEq.out rfl)
        clear HLt HEq HGt
        go_wp2_with fail
        go_region_held3 (fun w' => w'.cell? ⟨c, off2, none⟩ = some (.int .i64 y0) ∧ w'.cell? ⟨c, off2 + 1, none⟩ = some (.int .i64 y1) ∧ w'.cell? ⟨c, off2 + 2, none⟩ = some (.int .i64 y2))
          (first | assumption | exact keepOR (by assumption) hnb.out HCS.out | exact keepOR (by assumption) ((Below.refl _ _).alloc (Nat.le_refl _) _) (World.block_lt_of_cell? _ _ (And.left (by assumption))) | go_keep)
          ((refine stepApp1 tyRow _ (by rfl) (.tmp 45) (.tmp 49) (by rfl) w.heap.size _ acc (y0, y1, y2) w2.heap.size (by rfl) (by rfl) #[.int .i64 y0, .int .i64 y1, .int .i64 y2] rfl (by first | exact heap_alloc_new .. | (simp; done)) (HO2.out.below (by first | exact (Below.refl _ _).alloc (Nat.le_refl _) _ | exact ((Below.refl _ _).alloc (Nat.le_refl _) _).drew)) (by have := HS2.out; simp; omega) (by omega) ?_; intro g' cap' w3 hown3 hbel3 hgr3 _; have hnb := Lib.hid hbel3))
        have HO3 := Lib.hid hown3
        have HB3 := Lib.hid ((HB2.out.trans (by first | exact ((Below.refl _ _).alloc HS2.out _) | exact (((Below.refl _ _).alloc HS2.out _).drew))).trans hbel3)
        clear hown3 hbel3 hgr3
        go_wp2_with fail
        go_roundw
        case rel => exact ⟨ra, rb, acc ++ [(y0, y1, y2)], HTA.out, HTB.out, by simpa using HO3.out, HR.out, by simp; omega, HB3.out⟩
        case measure => first | (simp [lenG]; done) | (simp [lenG]; omega)
      · have hc1 : decide (cc < 0) = false := by simp; omega
        have hc2 : (cc == 0) = false := by simp; omega
        have HR := Lib.hid (HGt.out h)
        clear h HLt HEq HGt
        go_wp2_with fail
        go_region_held3 (fun w' => w'.cell? ⟨c, off2, none⟩ = some (.int .i64 y0) ∧ w'.cell? ⟨c, off2 + 1, none⟩ = some (.int .i64 y1) ∧ w'.cell? ⟨c, off2 + 2, none⟩ = some (.int .i64 y2))
          (first | assumption | exact keepOR (by assumption) hnb.out HCS.out | exact keepOR (by assumption) ((Below.refl _ _).alloc (Nat.le_refl _) _) (World.block_lt_of_cell? _ _ (And.left (by assumption))) | go_keep)
          ((refine stepApp1 tyRow _ (by rfl) (.tmp 45) (.tmp 49) (by rfl) w.heap.size _ acc (y0, y1, y2) w2.heap.size (by rfl) (by rfl) #[.int .i64 y0, .int .i64 y1, .int .i64 y2] rfl (by first | exact heap_alloc_new .. | (simp; done)) (HO2.out.below (by first | exact (Below.refl _ _).alloc (Nat.le_refl _) _ | exact ((Below.refl _ _).alloc (Nat.le_refl _) _).drew)) (by have := HS2.out; simp; omega) (by omega) ?_; intro g' cap' w3 hown3 hbel3 hgr3 _; have hnb := Lib.hid hbel3))
        have HO3 := Lib.hid hown3
        have HB3 := Lib.hid ((HB2.out.trans (by first | exact ((Below.refl _ _).alloc HS2.out _) | exact (((Below.refl _ _).alloc HS2.out _).drew))).trans hbel3)
        clear hown3 hbel3 hgr3
        go_wp2_with fail
        go_roundw
        case rel => exact ⟨(x0, x1, x2) :: ra, rb, acc ++ [(y0, y1, y2)], HRA.out, HTB.out, by simpa using HO3.out, HR.out, by simp; omega, HB3.out⟩
        case measure => first | (simp [lenG]; done) | (simp [lenG]; omega)

end Go.Proofs.YtheenlomlmbjaaaGreatDoor

namespace Go.Proofs.YtheenlomlmbjaaaGreatDoor
open Go.RowKit

theorem rowsS_len (s : Ser) : (rowsS s).length = s.2.length := by simp [rowsS]
theorem rowsS_take (id : Int) (L : List Smp) {k : Nat} (h : k < L.length) : rowsS (id, L.take (k + 1)) = rowsS (id, L.take k) ++ [((L.getD k (0, 0)).1, id, (L.getD k (0, 0)).2)] := by
  unfold rowsS
  simp only
  rw [List.take_add_one, List.map_append, List.getElem?_eq_getElem h, List.getD_eq_getElem?_getD, List.getElem?_eq_getElem h]
  rfl
theorem rowsOf_take (S : List Ser) {k : Nat} (h : k < S.length) : rowsOf (S.take (k + 1)) = mergeF cmpRw (rowsOf (S.take k)) (rowsS (S.getD k (0, []))) := by
  unfold rowsOf
  rw [List.take_add_one, List.foldl_append, List.getElem?_eq_getElem h, List.getD_eq_getElem?_getD, List.getElem?_eq_getElem h]
  rfl
theorem rowsOf_len (S : List Ser) : (rowsOf S).length ≤ tot S := by
  have h : ∀ (S : List Ser) (acc : List Rw), (S.foldl (fun acc s => mergeF cmpRw acc (rowsS s)) acc).length ≤ acc.length + tot S := by
    intro S
    induction S with
    | nil => intro acc; simp [tot]
    | cons s S ih =>
      intro acc
      have h1 := ih (mergeF cmpRw acc (rowsS s))
      have h2 := mergeF_len cmpRw acc (rowsS s)
      rw [rowsS_len] at h2
      have e2 : tot (s :: S) = s.2.length + tot S := by simp [tot]
      rw [List.foldl_cons]
      omega
  have := h S []
  rw [List.length_nil, Nat.zero_add] at this
  exact this

set_option maxRecDepth 100000 in
set_option maxHeartbeats 2000000 in
theorem rowsG_any (u : Value) (S : List Ser) (w : World) (hu : SerV w u S) (hl : S.length ≤ 1000) (ht : tot S ≤ 100000) :
    Calls Tryz.prog 58 #[u] w fun e w' => ∃ r, e = .returned r ∧ RowG 3 encRw w' r (rowsOf S) ∧ (S ≠ [] → OwnR 119 3 encRw w' w.heap.size r (rowsOf S)) ∧ Below w.heap.size w w' := by
  have HU := Lib.hid hu
  have HT := Lib.hid ht
  obtain ⟨a, cap, rfl, h1, h2⟩ := hu.shape
  obtain ⟨n, hn⟩ : ∃ n, n = S.length := ⟨_, rfl⟩
  have HN := Lib.hid hn
  rw [← hn] at h1 hl HU ⊢
  clear hu ht hn
  go_enter Tryz.func58, Tryz.ntmps58
  go_wp2_with fail
  go_loopw [11, 3] (fun x y wr => ∃ k : Nat, x = .int .i64 k ∧ k ≤ n ∧ OwnR 119 3 encRw wr w.heap.size y (rowsOf (S.take k)) ∧ Below w.heap.size w wr)
    (fun x y wr => n - (intOf x).toNat)
  case atStart => exact ⟨0, rfl, Nat.zero_le _, OwnR.nil _ _, Below.refl _ _⟩
  case round =>
    obtain ⟨k, rfl, hk, ho, hbl⟩ := hrel
    have HO := Lib.hid ho
    have HB := Lib.hid hbl
    by_cases hlt : k < n
    · have hkS : k < S.length := by have := HN.out; omega
      obtain ⟨b, off, vs, rfl, hgl, c0, c1, hvs⟩ := (HU.out.below hbl).at_ (i := k) hkS
      have hm : S.getD k (0, []) ∈ S := by
        rw [List.getD_eq_getElem?_getD, List.getElem?_eq_getElem hkS]; exact List.getElem_mem ..
      have hLl := Nat.le_trans (tot_get hm) HT.out
      have HSt := Lib.hid (rowsOf_take S hkS)
      have hRl := Nat.le_trans (rowsOf_len (S.take k)) (Nat.le_trans (tot_take S k) HT.out)
      obtain ⟨id, L, hsk⟩ : ∃ id L, S.getD k (0, []) = (id, L) := ⟨_, _, rfl⟩
      rw [hsk] at c0 hvs hLl HSt
      simp only at c0 hvs hLl
      obtain ⟨va, vc, rfl, hvc, hvm, -⟩ := hvs.samples
      have HV := Lib.hid hvs.samples
      clear hvs hm hsk ho
      have HX1 := Lib.hid (show (wr.alloc (.cells #[.int .i64 id, .slice va L.length vc] 49)).heap[wr.heap.size]? = some (.cells #[.int .i64 id, .slice va L.length vc] 49 (0, 0)) from heap_alloc_new _ _)
      have HB1 := Lib.hid (show Below wr.heap.size wr (wr.alloc (.cells #[.int .i64 id, .slice va L.length vc] 49)) from (Below.refl _ _).alloc (Nat.le_refl _) _)
      obtain ⟨y0a, y0c, rfl, -⟩ := HO.out.src
      obtain ⟨wo, rfl⟩ : ∃ wo, wo = wr := ⟨_, rfl⟩
      have hwo := hbl.size
      clear hbl
      go_wp2_with fail
      go_loopw [18, 6] (fun x y wi => ∃ j : Nat, x = .int .i64 j ∧ j ≤ L.length ∧ OwnR 119 3 encRw wi (wo.heap.size + 1) y (rowsS (id, L.take j)) ∧ Below (wo.heap.size + 1) (wo.alloc (.cells #[.int .i64 id, .slice va L.length vc] 49)) wi)
        (fun x y wr => L.length - (intOf x).toNat)
      case atStart => exact ⟨0, rfl, Nat.zero_le _, OwnR.nil _ _, Below.refl _ _⟩
      case round =>
        obtain ⟨j, rfl, hj, ho2, hbl2⟩ := hrel
        have HO2 := Lib.hid ho2
        have HB2 := Lib.hid hbl2
        have HBw := Lib.hid (HB1.out.trans (hbl2.mono (Nat.le_succ _)))
        have hwl : wo.heap.size < wr.heap.size := Nat.lt_of_lt_of_le (by simp) hbl2.size
        have hx := (hbl2.block _ (Nat.lt_succ_self _)).trans HX1.out
        have y0 : wr.cell? ⟨wo.heap.size, 0, none⟩ = some (.int .i64 id) := by rw [cell_of_row wr _ _ _ _ _ hx]; rfl
        have y1 : wr.cell? ⟨wo.heap.size, 1, none⟩ = some (.slice va L.length vc) := by rw [cell_of_row wr _ _ _ _ _ hx]; rfl
        clear ho2 hbl2 hx
        by_cases hlj : j < L.length
        · obtain ⟨b', off', hb', hbs, d0, d1⟩ := (HV.out.below HBw.out).at_ (i := j) hlj
          subst hb'
          have HSucc := Lib.hid (rowsS_take id L hlj)
          have hlen : (rowsS (id, L.take j)).length = j := by rw [rowsS_len, List.length_take]; omega
          generalize (L.getD j (0, 0)).1 = x0 at *
          generalize (L.getD j (0, 0)).2 = x1 at *
          go_wp2_with (at_builtin; refine app_row _ rfl (.tmp 22) (.tmp 30) rfl (wo.heap.size + 1) _ (rowsS (id, L.take j)) (x0, id, x1) (wr.heap.size + 1) rfl (by rfl) (heap_alloc2_new ..) (HO2.out.below (((Below.refl _ _).alloc (Nat.le_refl _) _).alloc (by simp) _)) (by simp; omega) (by omega) ?_; intro g' cap' w2 hown' hbl'; rw [hlen] at hown'; have HO3 := Lib.hid hown'; have HB3 := Lib.hid hbl'; clear hown' hbl')
          go_roundw
          case rel => exact ⟨j + 1, by go_num, by omega, by rw [HSucc.out]; exact HO3.out, (HB2.out.trans (((Below.refl _ _).alloc (by omega) _).alloc (by simp; omega) _)).trans HB3.out⟩
          case measure => simp [intOf]; omega
        · have hje : j = L.length := by omega
          rw [hje, List.take_length] at HO2
          have hRl2 : (rowsS (id, L)).length ≤ 100000 := by rw [rowsS_len]; exact hLl
          have HA := Lib.hid ((HO.out.rowG).below HBw.out)
          have HM := Lib.hid (mergeR_any _ _ _ _ wr HA.out HO2.out.rowG hRl hRl2)
          rw [← HSt.out] at HM
          unfold rowF at HM
          clear hlj
          go_wp2_with fail
          refine HM.out.mono ?_
          rintro e w3 ⟨r, rfl, ho3, hb3⟩
          have HO3 := Lib.hid (ho3.base (b' := w.heap.size) (by omega))
          have HB3 := Lib.hid ((HB.out.trans (HBw.out.mono hwo)).trans (hb3.mono (by omega)))
          clear ho3 hb3
          go_wp2_with fail
          go_roundw
          case rel => exact ⟨k + 1, by go_num, by omega, HO3.out, HB3.out⟩
          case measure => simp [intOf]; omega
    · have hke : n = k := by omega
      subst hke
      have HF := Lib.hid (show rowsOf (S.take n) = rowsOf S by rw [HN.out, List.take_length])
      go_wp2_with fail
      go_ret
      rw [HF.out] at HO
      exact ⟨_, rfl, HO.out.rowG, fun _ => HO.out, HB.out⟩

end Go.Proofs.YtheenlomlmbjaaaGreatDoor

namespace Go.Proofs.YtheenlomlmbjaaaGreatDoor
open Go.RowKit Go.Maps Go.Sort Go.Shelf

theorem encI_flat (L : List Int) : L.flatMap encI = L.map (Value.int .i64) := by
  induction L with
  | nil => rfl
  | cons x L ih => rw [List.flatMap_cons, List.map_cons, ih]; rfl
theorem sorted_rise {L I : List Int} (hn : L.Nodup) (hI : I.Pairwise (· < ·)) (hm : ∀ z, z ∈ L ↔ z ∈ I) : (L.mergeSort fun x y => decide (x ≤ y)) = I := by
  have hp : (L.mergeSort fun x y => decide (x ≤ y)).Perm L := List.mergeSort_perm _ _
  have h1 : (L.mergeSort fun x y => decide (x ≤ y)).Pairwise (fun x y => decide (x ≤ y) = true) := List.pairwise_mergeSort (fun a b c h1 h2 => by simp at *; omega) (fun a b => by simp; omega) L
  refine rise_ext ?_ hI fun z => by rw [hp.mem_iff]; exact hm z
  have h2 : (L.mergeSort fun x y => decide (x ≤ y)).Nodup := hp.nodup_iff.2 hn
  refine (h1.and h2).imp ?_
  rintro x y ⟨ha, hb⟩
  simp at ha
  omega
theorem sortI_any (base : Nat) (v : Value) (L : List Int) (w : World) (h : OwnR 3 1 encI w base v L) (hl : L.length ≤ 1000) :
    Calls Tryz.prog 118 #[v] w fun e w' => e = .returned (.tuple #[]) ∧ OwnR 3 1 encI w' base v (L.mergeSort fun x y => decide (x ≤ y)) ∧ w.grownBy w' v.ownBlock := by
  have hlen : (L.mergeSort fun x y => decide (x ≤ y)).length = L.length := List.length_mergeSort _
  rcases h.2 with ⟨rfl, h0⟩ | ⟨g, cap, cur, rfl, hg, hh, hn, hcap, hs, htake⟩
  · obtain rfl : L = [] := List.eq_nil_of_length_eq_zero h0
    refine (AnyM.slices_Sort_int_none Tryz.sortI none 0 w).mono ?_
    rintro e w' ⟨rfl, rfl⟩
    exact ⟨rfl, by rw [List.mergeSort_nil]; exact OwnR.nil _ _, ⟨rfl, rfl, rfl, Nat.le_refl _, fun _ _ _ => rfl⟩⟩
  · have ht : cur.toList.take L.length = L.map (Value.int .i64) := by
      have := htake
      rw [encI_flat, Nat.mul_one] at this
      exact this
    refine (AnyM.slices_Sort_int Tryz.sortI g 0 cap L w (holds_of_blockI hh ht) (lt_of_heap hh) (by omega)).mono ?_
    rintro e w' ⟨rfl, n, os, rfl⟩
    refine ⟨rfl, ?_, grownBy_sortedI _⟩
    have := ownsRow_sortedI (os := os) (n := n) hlen hg hh hn hcap (by simpa using hs)
    unfold OwnR
    rw [encI_flat, hlen]
    exact this

end Go.Proofs.YtheenlomlmbjaaaGreatDoor

namespace Go.Proofs.YtheenlomlmbjaaaGreatDoor
open Go.RowKit Go.Maps

set_option maxRecDepth 100000 in
set_option maxHeartbeats 2000000 in
theorem next_any (p : Nat) (u v : Value) (ds ls : List Int) (w : World) (h : PolOk w p) (hu : RowG 1 encI w u ds) (hv : RowG 1 encI w v ls) (hl : ls.length = ds.length) (hd : ∀ d ∈ ds, 0 ≤ d ∧ d < 100000) (hz : ∀ l ∈ ls, l = 0) (h24 : ds.length ≤ 1000) :
    Calls Tryz.prog 116 #[.pointer (some ⟨p, 0, none⟩), u, v] w fun e w' => e = .returned (.tuple #[.int .i64 0, .int .i64 0, .bool false]) ∧ Below w.heap.size w w' := by
  have HP := Lib.hid h
  have HU := Lib.hid hu
  have HV := Lib.hid hv
  have HD := Lib.hid hd
  have HZ := Lib.hid hz
  obtain ⟨a, ca, rfl, a1, a2, -⟩ := hu
  obtain ⟨b, cb, rfl, b1, b2, -⟩ := hv
  obtain ⟨n, hn⟩ : ∃ n, n = ds.length := ⟨_, rfl⟩
  have HN := Lib.hid hn
  have HL := Lib.hid hl
  rw [hl] at b1 HV ⊢
  rw [← hn] at a1 b1 h24 HU HV ⊢
  clear h hd hz hl hn
  go_enter Tryz.func116, Tryz.ntmps116
  go_wp2_with fail
  go_loopw [20] (fun x wr => ∃ k : Nat, x = .int .i64 k ∧ k ≤ n ∧ Below w.heap.size w wr) (fun x _ => n - (intOf x).toNat)
  case atStart => exact ⟨0, rfl, Nat.zero_le _, Below.refl _ _⟩
  case round =>
    obtain ⟨k, rfl, hk, hbl⟩ := hrel
    have HB := Lib.hid hbl
    by_cases hlt : k < n
    · have hkd : k < ds.length := by rw [← HN.out]; exact hlt
      have hkl : k < ls.length := by rw [HL.out]; exact hkd
      obtain ⟨b1', o1, rfl, hb1, hc1⟩ := (HU.out.below hbl).at_ (fun _ => rfl) 0 hkd
      obtain ⟨b2', o2, rfl, hb2, hc2⟩ := (HV.out.below hbl).at_ (fun _ => rfl) 0 hkl
      have c1 := hc1 0 (by omega)
      have c2 := hc2 0 (by omega)
      rw [HZ.out _ (getD_mem' 0 hkl)] at c2
      obtain ⟨hd0, hd1⟩ := HD.out _ (getD_mem' 0 hkd)
      simp only [encI, Nat.mul_one, Nat.add_zero, List.getElem?_cons_zero] at c1 c2
      generalize ds.getD k 0 = day at *
      have HW := Lib.hid (wants_any p day wr (HP.out.below hbl) hd0 hd1)
      clear hc1 hc2 hbl hd0 hd1 hkd hkl
      go_wp2_with fail
      refine HW.out.mono ?_
      rintro e w2 ⟨rfl, hb2'⟩
      have c2' := (hb2'.cell (p := ⟨b2', o2 + k, none⟩) hb2).trans c2
      have HB2 := Lib.hid (HB.out.trans (hb2'.mono HB.out.size))
      clear hb2' c1 c2 hb1 hb2 HW
      go_wp2_with fail
      go_roundw
      case rel => exact ⟨k + 1, by go_num, by omega, HB2.out⟩
      case measure => simp [intOf]; omega
    · have hke : n = k := by omega
      subst hke
      clear hbl
      go_wp2_with fail
      go_ret3
      exact ⟨rfl, HB.out⟩

end Go.Proofs.YtheenlomlmbjaaaGreatDoor

namespace Go.Proofs.YtheenlomlmbjaaaGreatDoor
open Go.RowKit Go.Maps

section
variable {α : Type} {t k b : Nat} {enc : α → List Value} {w w3 : World} {v : Value} {l : List α}
theorem OwnR.al (h : OwnR t k enc w b v l) (o : Obj) : OwnR t k enc (w.alloc o) b v l := h.below ((Below.refl _ _).alloc (Nat.le_refl _) _)
theorem OwnR.dr (h : OwnR t k enc w b v l) : OwnR t k enc w.drew b v l := h.below (Below.refl _ _).drew
theorem cell_dr {p : Addr} {u : Value} (h : w.cell? p = some u) : w.drew.cell? p = some u := h
theorem grow_cell {row : Option Nat} (hg : w.grownBy w3 row) {B i : Nat} {u : Value} (h : w.cell? ⟨B, i, none⟩ = some u) (hne : some B ≠ row) : w3.cell? ⟨B, i, none⟩ = some u :=
  (World.cell?_of_block (hg.block B (World.block_lt_of_cell? w _ h) hne)).trans h
end
theorem two_end {base g3 c3 g4 n3 : Nat} {W1 w3 W2 w4 : World} {y z : Value} {lz l3 : List Int}
    (hz : OwnR 3 1 encI W1 base z lz) (ne : y.ownBlock = none ∨ y.ownBlock ≠ z.ownBlock)
    (hn3 : y.ownBlock = some g3 ∨ W1.heap.size ≤ g3) (h3 : OwnR 3 1 encI w3 base (.slice (some ⟨g3, 0, none⟩) n3 c3) l3)
    (h2 : OwnR 3 1 encI W2 base (.slice (some ⟨g3, 0, none⟩) n3 c3) l3) (hs : w3.heap.size ≤ W2.heap.size) (hgr4 : W2.grownBy w4 z.ownBlock) (hn4 : z.ownBlock = some g4 ∨ W2.heap.size ≤ g4) :
    OwnR 3 1 encI w4 base (.slice (some ⟨g3, 0, none⟩) n3 c3) l3 ∧ (some g3 : Option Nat) ≠ some g4 := by
  have e3 : (some g3 : Option Nat) ≠ z.ownBlock := fun e => by
    rcases hn3 with h | h
    · rcases ne with h5 | h5
      · rw [h5] at h; cases h
      · exact h5 (h.trans e)
    · have := (World.ownsRow.lt hz g3 e.symm).2; omega
  have l3' := (World.ownsRow.lt h3 g3 rfl).2
  refine ⟨h2.kept hgr4 (.inr e3), fun e => ?_⟩
  rcases hn4 with h | h
  · exact e3 (e.trans h.symm)
  · have := Option.some.inj e; omega

set_option maxRecDepth 100000 in
set_option maxHeartbeats 4000000 in
attribute [local go_sem ↓] Go.wp_at_zero Go.wp_at_succ in
theorem wish_any (x p : Nat) (u : Value) (P : List Pt) (w : World) (hx : w.cell? ⟨x, 3, none⟩ = some u) (hp : w.cell? ⟨x, 13, none⟩ = some (.pointer (some ⟨p, 0, none⟩))) (hpol : PolOk w p) (hu : RowG 3 encPt w u P) (hd : ∀ q ∈ P, 0 ≤ q.1 ∧ q.1 < 100000 ∧ q.2.1 = 0) (h24 : P.length ≤ 1000) :
    Calls Tryz.prog 61 #[.pointer (some ⟨x, 0, none⟩)] w fun e w' => e = .returned (.tuple #[.int .i64 0, .int .i64 0, .bool false]) ∧ Below w.heap.size w w' := by
  have HP := Lib.hid hpol
  have HU := Lib.hid hu
  have HD := Lib.hid hd
  have HPc := Lib.hid hp
  have hxl := World.block_lt_of_cell? w _ hx
  obtain ⟨a, ca, rfl, a1, a2, -⟩ := hu
  obtain ⟨n, hn⟩ : ∃ n, n = P.length := ⟨_, rfl⟩
  have HN := Lib.hid hn
  rw [← hn] at a1 h24 HU hx
  clear hpol hd hn hp
  go_enter Tryz.func61, Tryz.ntmps61
  go_wp2_with fail
  go_loopw [5, 6, 15] (fun y0 z0 i wr => ∃ (k : Nat) (y z : Value), y0 = y ∧ z0 = z ∧ i = .int .i64 k ∧ k ≤ n ∧ OwnR 3 1 encI wr w.heap.size y ((P.take k).map (·.1)) ∧ OwnR 3 1 encI wr w.heap.size z ((P.take k).map (·.2.1)) ∧ (y.ownBlock = none ∨ y.ownBlock ≠ z.ownBlock) ∧ Below w.heap.size w wr) (fun y z i _ => n - (intOf i).toNat)
  case atStart => exact ⟨0, _, _, rfl, rfl, rfl, Nat.zero_le _, OwnR.nil _ _, OwnR.nil _ _, .inl rfl, Below.refl _ _⟩
  case round =>
    obtain ⟨k, y, z, hyv, hzv, rfl, hk, hy, hz, hyz, hbl⟩ := hrel
    have hyv' := hyv.symm
    have hzv' := hzv.symm
    clear hyv hzv
    subst hyv' hzv'
    have HB := Lib.hid hbl
    by_cases hlt : k < n
    · have hki : (k : Int) < (n : Int) := by omega
      have hkP : k < P.length := by rw [← HN.out]; exact hlt
      obtain ⟨b, off, rfl, hbs, hc⟩ := (HU.out.below hbl).at_ (fun _ => rfl) (0, 0, []) hkP
      have c0 := hc 0 (by omega)
      have c1 := hc 1 (by omega)
      have c2 := hc 2 (by omega)
      simp only [encPt, Nat.add_zero, List.getElem?_cons_zero, List.getElem?_cons_succ] at c0 c1 c2
      have HTk := Lib.hid (show (P.take (k + 1)).map (·.1) = (P.take k).map (·.1) ++ [(P.getD k (0, 0, [])).1] ∧ (P.take (k + 1)).map (·.2.1) = (P.take k).map (·.2.1) ++ [(P.getD k (0, 0, [])).2.1] by rw [snoc_take P (0, 0, []) hkP]; simp)
      generalize P.getD k (0, 0, []) = q at *
      obtain ⟨q0, q1, q2⟩ := q
      simp only at c0 c1 c2 HTk
      have HAl := Lib.hid (show Below wr.heap.size wr (wr.alloc (.cells #[.int .i64 q0, .int .i64 q1, .string (bs q2)] 139)) from (Below.refl _ _).alloc (Nat.le_refl _) _)
      have HX := Lib.hid (heap_alloc_new wr (.cells #[.int .i64 q0, .int .i64 q1, .string (bs q2)] 139))
      have HY := Lib.hid (hy.below HAl.out)
      have HZ := Lib.hid (hz.below HAl.out)
      have HYZ := Lib.hid hyz
      have hx1 := Lib.hid (show some wr.heap.size ≠ y.ownBlock from fun e => by have := (World.ownsRow.lt hy _ e.symm).2; omega)
      have hx2 := Lib.hid (show some wr.heap.size ≠ z.ownBlock from fun e => by have := (World.ownsRow.lt hz _ e.symm).2; omega)
      have hzy := Lib.hid (show z.ownBlock = none ∨ z.ownBlock ≠ y.ownBlock from by
        rcases hyz with e | e
        · cases hz' : z.ownBlock with
          | none => exact .inl rfl
          | some j => exact .inr (by rw [e]; simp)
        · exact .inr (fun e2 => e e2.symm))
      have hsz := hbl.size
      have HzL := Lib.hid (fun j (hj : z.ownBlock = some j) => show j < wr.heap.size from (World.ownsRow.lt hz j hj).2)
      have HyL := Lib.hid (fun j (hj : y.ownBlock = some j) => show j < wr.heap.size from (World.ownsRow.lt hy j hj).2)
      have hl1 : ((P.take k).map (·.1)).length ≤ 1000000000 := by simp; omega
      have hl2 : ((P.take k).map (·.2.1)).length ≤ 1000000000 := by simp; omega
      generalize (P.take k).map (·.1) = ly at *
      generalize (P.take k).map (·.2.1) = lz at *
      clear hc hbl hy hz hyz
      go_upto_region 5 with (fail)
      have d0 : (wr.alloc (.cells #[.int .i64 q0, .int .i64 q1, .string (bs q2)] 139)).cell? ⟨wr.heap.size, 0, none⟩ = some (.int .i64 q0) := by rw [cell_of_row _ _ _ _ _ _ HX.out]; rfl
      have d1 : (wr.alloc (.cells #[.int .i64 q0, .int .i64 q1, .string (bs q2)] 139)).cell? ⟨wr.heap.size, 1, none⟩ = some (.int .i64 q1) := by rw [cell_of_row _ _ _ _ _ _ HX.out]; rfl
      have dl : wr.heap.size < (wr.alloc (.cells #[.int .i64 q0, .int .i64 q1, .string (bs q2)] 139)).heap.size := by simp
      generalize wr.alloc (.cells #[.int .i64 q0, .int .i64 q1, .string (bs q2)] 139) = W0 at *
      have hW0 : w.heap.size ≤ W0.heap.size := by omega
      have HS0 := Lib.hid (show W0.cell? ⟨wr.heap.size, 0, none⟩ = some (.int .i64 q0) ∧ W0.cell? ⟨wr.heap.size, 1, none⟩ = some (.int .i64 q1) from ⟨d0, d1⟩)
      have HY0 := Lib.hid (OwnR.dr HY.out)
      have HZ0 := Lib.hid (OwnR.dr HZ.out)
      have HBW := Lib.hid (show Below w.heap.size w W0 from HB.out.trans (HAl.out.mono HB.out.size))
      clear d0 d1
      go_region_held3 (fun w' => w'.cell? ⟨wr.heap.size, 0, none⟩ = some (.int .i64 q0) ∧ w'.cell? ⟨wr.heap.size, 1, none⟩ = some (.int .i64 q1))
        (first | with_reducible assumption | exact ⟨by repeat (first | with_reducible exact HS0.out.1 | with_reducible refine cell_dr ?_ | with_reducible refine cell_alloc_ne ?_ | with_reducible refine grow_cell hgr3 ?_ hx1.out | with_reducible refine grow_cell hgr4 ?_ hx2.out), by repeat (first | with_reducible exact HS0.out.2 | with_reducible refine cell_dr ?_ | with_reducible refine cell_alloc_ne ?_ | with_reducible refine grow_cell hgr3 ?_ hx1.out | with_reducible refine grow_cell hgr4 ?_ hx2.out)⟩)
        (first
          | (refine stepApp1 tyInt _ (by rfl) (.tmp 19) (.tmp 22) (by rfl) w.heap.size y ly q0 _ (by rfl) (by rfl) #[.int .i64 q0] rfl (by first | exact heap_alloc_new .. | exact heap_alloc2_new .. | exact heap_old (heap_alloc_new ..) | exact (hgr4.block _ (by first | (simp; done) | (simp; omega)) (fun e => by have h9 := HzL.out _ e.symm; (try simp at h9); omega)).trans (by first | exact heap_alloc_new .. | exact heap_alloc2_new .. | exact heap_old (heap_alloc_new ..))) (by repeat (first | with_reducible assumption | with_reducible exact HY0.out | with_reducible refine OwnR.al ?_ _ | with_reducible refine OwnR.dr ?_ | with_reducible exact HY.out | (refine OwnR.kept ?_ hgr4 HYZ.out))) (by first | omega | (simp; omega)) hl1 ?_; intro g3 c3 w3 hown3 hbl3 hgr3 hnew3; have hs3 : w.heap.size ≤ w3.heap.size ∧ wr.heap.size < w3.heap.size := (by have h9 := hgr3.size; (try simp at h9); omega); obtain ⟨hs3, hs3'⟩ := hs3)
          | (refine stepApp1 tyInt _ (by rfl) (.tmp 24) (.tmp 27) (by rfl) w.heap.size z lz q1 _ (by rfl) (by rfl) #[.int .i64 q1] rfl (by first | exact heap_alloc_new .. | exact heap_alloc2_new .. | exact heap_old (heap_alloc_new ..) | exact (hgr3.block _ (by first | (simp; done) | (simp; omega)) (fun e => by have h9 := HyL.out _ e.symm; (try simp at h9); omega)).trans (by first | exact heap_alloc_new .. | exact heap_alloc2_new .. | exact heap_old (heap_alloc_new ..))) (by repeat (first | with_reducible assumption | with_reducible exact HZ0.out | with_reducible refine OwnR.al ?_ _ | with_reducible refine OwnR.dr ?_ | with_reducible exact HZ.out | (refine OwnR.kept ?_ hgr3 hzy.out))) (by first | omega | (simp; omega)) hl2 ?_; intro g4 c4 w4 hown4 hbl4 hgr4 hnew4; have hs4 : w.heap.size ≤ w4.heap.size ∧ wr.heap.size < w4.heap.size := (by have h9 := hgr4.size; (try simp at h9); omega); obtain ⟨hs4, hs4'⟩ := hs4))
      all_goals
        (first
           | (have HEnd := Lib.hid (show OwnR 3 1 encI w4 w.heap.size (.slice (some ⟨g3, 0, none⟩) (ly.length + 1) c3) (ly ++ [q0]) ∧ OwnR 3 1 encI w4 w.heap.size (.slice (some ⟨g4, 0, none⟩) (lz.length + 1) c4) (lz ++ [q1]) ∧ ((some g3 : Option Nat) = none ∨ (some g3 : Option Nat) ≠ some g4) ∧ Below w.heap.size w w4 from by
                have H := two_end (lz := lz) (by repeat (first | with_reducible exact HZ.out | with_reducible exact HZ0.out | with_reducible refine OwnR.al ?_ _ | with_reducible refine OwnR.dr ?_)) HYZ.out hnew3 hown3 (by repeat (first | with_reducible exact hown3 | with_reducible refine OwnR.al ?_ _ | with_reducible refine OwnR.dr ?_)) (by first | exact Nat.le_refl _ | (simp; done)) hgr4 hnew4
                refine ⟨H.1, hown4, .inr H.2, ?_⟩
                refine Below.trans ?_ hbl4
                repeat (first | with_reducible exact HBW.out | with_reducible refine Below.trans ?_ hbl3 | with_reducible refine Below.drew ?_ | (with_reducible refine Below.alloc ?_ (by first | omega | (simp; omega) | (have h9 := hbl3.size; omega) | (have h9 := hbl3.size; simp at h9; omega)) _))))
           | (have HEnd := Lib.hid (show OwnR 3 1 encI w3 w.heap.size (.slice (some ⟨g3, 0, none⟩) (ly.length + 1) c3) (ly ++ [q0]) ∧ OwnR 3 1 encI w3 w.heap.size (.slice (some ⟨g4, 0, none⟩) (lz.length + 1) c4) (lz ++ [q1]) ∧ ((some g3 : Option Nat) = none ∨ (some g3 : Option Nat) ≠ some g4) ∧ Below w.heap.size w w3 from by
                have H := two_end (lz := ly) (by repeat (first | with_reducible exact HY.out | with_reducible exact HY0.out | with_reducible refine OwnR.al ?_ _ | with_reducible refine OwnR.dr ?_)) hzy.out hnew4 hown4 (by repeat (first | with_reducible exact hown4 | with_reducible refine OwnR.al ?_ _ | with_reducible refine OwnR.dr ?_)) (by first | exact Nat.le_refl _ | (simp; done)) hgr3 hnew3
                refine ⟨hown3, H.1, .inr (fun e => H.2 e.symm), ?_⟩
                refine Below.trans ?_ hbl3
                repeat (first | with_reducible exact HBW.out | with_reducible refine Below.trans ?_ hbl4 | with_reducible refine Below.drew ?_ | (with_reducible refine Below.alloc ?_ (by first | omega | (simp; omega) | (have h9 := hbl4.size; omega) | (have h9 := hbl4.size; simp at h9; omega)) _))))
         rw [← HTk.out.1, ← HTk.out.2] at HEnd
         clear hown3 hbl3 hgr3 hnew3 hown4 hbl4 hgr4 hnew4
         go_wp2_with fail
         go_roundw
         case rel => exact ⟨k + 1, _, _, rfl, rfl, by go_num, by omega, HEnd.out.1, HEnd.out.2.1, HEnd.out.2.2.1, HEnd.out.2.2.2⟩
         case measure => simp [intOf]; omega)
    · have hke : n = k := by omega
      subst hke
      have hPn : P.take n = P := by rw [HN.out, List.take_length]
      rw [hPn] at hy hz
      have HNx := Lib.hid (next_any p _ _ _ _ wr (HP.out.below hbl) hy.rowG hz.rowG (by simp) (fun d hd => by obtain ⟨q, hq, rfl⟩ := List.mem_map.1 hd; exact ⟨(HD.out q hq).1, (HD.out q hq).2.1⟩) (fun l hl => by obtain ⟨q, hq, rfl⟩ := List.mem_map.1 hl; exact (HD.out q hq).2.2) (by simp; have := HN.out; omega))
      have hp' := (hbl.cell (p := ⟨x, 13, none⟩) hxl).trans HPc.out
      clear hbl hy hz hyz
      go_wp2_with fail
      refine HNx.out.mono ?_
      rintro e w2 ⟨rfl, hb2⟩
      have HB2 := Lib.hid (HB.out.trans (hb2.mono HB.out.size))
      clear hb2
      go_wp2_with fail
      go_ret3
      exact ⟨rfl, HB2.out⟩

end Go.Proofs.YtheenlomlmbjaaaGreatDoor

namespace Go.Proofs.YtheenlomlmbjaaaGreatDoor.QIn
open Go.RowKit

def RBx (w : World) (b : Nat) (f t : Int) : Prop := w.heap[b]? = some (.cells #[.int .i64 f, .int .i64 t] 46 (0, 0))
theorem RBx.cells {w : World} {b : Nat} {f t : Int} (h : RBx w b f t) : w.cell? ⟨b, 0, none⟩ = some (.int .i64 f) ∧ w.cell? ⟨b, 1, none⟩ = some (.int .i64 t) := by
  constructor <;> (rw [cell_of_row w _ _ _ _ _ h]; rfl)
theorem RBx.below {w w' : World} {b : Nat} {f t : Int} (h : RBx w b f t) (hb : Below w.heap.size w w') : RBx w' b f t := (hb.block b (lt_of_heap h)).trans h
def inB (f t : Int) (x : Smp) : Bool := decide (f ≤ x.1) && decide (x.1 < t)
theorem below_al {w w' : World} {o : Obj} (h : Below (w.alloc o).heap.size (w.alloc o) w') : Below w.heap.size w w' :=
  ((Below.refl _ _).alloc (Nat.le_refl _) _).trans (h.mono (by simp))
def clo (B : Nat) : Value := .func (.func 178) #[] #[.pointer (some ⟨B, 0, none⟩)]
def del (C : Nat) : Value := .func (.func 104) #[] #[.pointer (some ⟨C, 0, none⟩)]

set_option maxRecDepth 100000 in
theorem within_any (f t : Int) (w : World) :
    Calls Tryz.prog 101 #[.agg #[.int .i64 f, .int .i64 t]] w fun e w' => e = .returned (clo w.heap.size) ∧ w' = w.alloc (.cells #[.int .i64 f, .int .i64 t] 46) := by
  go_enter Tryz.func101, Tryz.ntmps101
  go_wp2_with fail
  go_ret
  exact ⟨rfl, rfl⟩

set_option maxRecDepth 100000 in
theorem within1_any (x y f t : Int) (B : Nat) (w : World) (hb : RBx w B f t) :
    Calls Tryz.prog 178 #[.agg #[.int .i64 x, .int .i64 y], .pointer (some ⟨B, 0, none⟩)] w fun e w' => e = .returned (.bool (decide (f ≤ x) && decide (x < t))) ∧ Below w.heap.size w w' := by
  obtain ⟨g0, g1⟩ := hb.cells
  have hlt : B < w.heap.size := World.block_lt_of_cell? w _ g0
  go_enter Tryz.func178, Tryz.ntmps178
  by_cases h1 : f ≤ x
  · have h1' : decide (f ≤ x) = true := by simp [h1]
    by_cases h2 : x < t
    · have h2' : decide (x < t) = true := by simp [h2]
      go_wp2_with fail
      go_ret
      exact ⟨by simp [h1', h2'], (Below.refl _ _).alloc (Nat.le_refl _) _⟩
    · have h2' : decide (x < t) = false := by simp [h2]
      go_wp2_with fail
      go_ret
      exact ⟨by simp [h1', h2'], (Below.refl _ _).alloc (Nat.le_refl _) _⟩
  · have h1' : decide (f ≤ x) = false := by simp [h1]
    go_wp2_with fail
    go_ret
    exact ⟨by simp [h1'], (Below.refl _ _).alloc (Nat.le_refl _) _⟩

def Env (w : World) (C B : Nat) (f t : Int) : Prop := w.cell? ⟨C, 0, none⟩ = some (clo B) ∧ RBx w B f t
theorem Env.below {w w' : World} {C B : Nat} {f t : Int} (h : Env w C B f t) (hb : Below w.heap.size w w') : Env w' C B f t :=
  ⟨(hb.cell (p := ⟨C, 0, none⟩) (World.block_lt_of_cell? w _ h.1)).trans h.1, h.2.below hb⟩

set_option maxRecDepth 100000 in
theorem in1_any (x y f t : Int) (C B : Nat) (w : World) (he : Env w C B f t) :
    Calls Tryz.prog 104 #[.agg #[.int .i64 x, .int .i64 y], .pointer (some ⟨C, 0, none⟩)] w fun e w' => e = .returned (.bool (!(inB f t (x, y)))) ∧ Below w.heap.size w w' := by
  have hc := he.1
  rw [clo] at hc
  have HE := Lib.hid (he.2.below ((Below.refl _ w).alloc (Nat.le_refl _) (.cells #[.int .i64 x, .int .i64 y] 211)))
  have HC := Lib.hid (fun w (h : RBx w B f t) => within1_any x y f t B w h)
  have hin : inB f t (x, y) = (decide (f ≤ x) && decide (x < t)) := rfl
  rw [hin]
  clear hin
  generalize (decide (f ≤ x) && decide (x < t)) = bb at *
  have hlt : C < w.heap.size := World.block_lt_of_cell? w _ hc
  clear he
  go_enter Tryz.func104, Tryz.ntmps104
  go_wp2_with (go_at_call 178; refine (HC.out _ HE.out).mono ?_; rintro e w1 ⟨rfl, hd⟩)
  go_ret
  exact ⟨rfl, below_al hd⟩

set_option maxRecDepth 100000 in
set_option maxHeartbeats 1000000 in
theorem indexAll_any (v : Value) (ls : List Smp) (f t : Int) (C B : Nat) (w : World) (hv : Samples w v ls) (he : Env w C B f t) (hin : ∀ x ∈ ls, inB f t x = true) :
    Calls Tryz.prog 179 #[v, del C] w fun e w' => e = .returned (.int .i64 (-1)) ∧ Below w.heap.size w w' := by
  have HV := Lib.hid hv
  have HE := Lib.hid he
  have HIn := Lib.hid hin
  obtain ⟨a, cap, rfl, h1, h2, -⟩ := hv
  clear he hin
  rw [del]
  go_enter Tryz.func179, Tryz.ntmps179
  go_wp2_with fail
  go_loopw [8, 5] (fun i p wr => ∃ k : Nat, k ≤ ls.length ∧ i = .int .i64 k ∧ Below w.heap.size w wr)
    (fun i p wr => ls.length - (intOf i).toNat)
  case atStart => exact ⟨0, Nat.zero_le _, rfl, Below.refl _ _⟩
  case round =>
    obtain ⟨k, hk, rfl, hb0⟩ := hrel
    have HB := Lib.hid hb0
    clear hb0
    by_cases hlt : k < ls.length
    · obtain ⟨b, off, rfl, hb, hc1, hc2⟩ := (HV.out.below HB.out).at_ hlt
      have HC := Lib.hid (fun x y w (h : Env w C B f t) => in1_any x y f t C B w h)
      have HE2 := Lib.hid (HE.out.below HB.out)
      have hbo : inB f t (ls.getD k (0, 0)) = true := HIn.out _ (by rw [List.getD_eq_getElem?_getD, List.getElem?_eq_getElem hlt]; exact List.getElem_mem _)
      generalize ls.getD k (0, 0) = x at *
      obtain ⟨x1, x2⟩ := x
      go_wp2_with (go_at_call 104; refine (HC.out x1 x2 _ HE2.out).mono ?_; rintro e w1 ⟨rfl, hd⟩; rw [hbo])
      exact ⟨⟨k + 1, by omega, by go_num, HB.out.trans (hd.mono HB.out.size)⟩, by simp [intOf]; omega⟩
    · go_wp2_with fail
      go_ret
      exact ⟨rfl, HB.out⟩
set_option maxRecDepth 100000 in
theorem deleteAll_any (v : Value) (ls : List Smp) (f t : Int) (C B : Nat) (w : World) (hv : Samples w v ls) (he : Env w C B f t) (hin : ∀ x ∈ ls, inB f t x = true) :
    Calls Tryz.prog 102 #[v, del C] w fun e w' => e = .returned v ∧ Below w.heap.size w w' := by
  have HI := Lib.hid (indexAll_any v ls f t C B w hv he hin)
  rw [del]
  rw [del] at HI
  obtain ⟨a, cap, rfl, h1, h2, -⟩ := hv
  clear he hin
  go_enter Tryz.func102, Tryz.ntmps102
  go_wp2_with fail
  refine HI.out.mono ?_
  rintro e w1 ⟨rfl, hd⟩
  go_wp2_with fail
  go_ret
  exact ⟨rfl, hd⟩
set_option maxRecDepth 100000 in
set_option maxHeartbeats 1000000 in
theorem inAll_any (v : Value) (ls : List Smp) (f t : Int) (w : World) (hv : Samples w v ls) (hl : ls.length ≤ 1000000) (hin : ∀ x ∈ ls, inB f t x = true) :
    Calls Tryz.prog 59 #[v, .agg #[.int .i64 f, .int .i64 t]] w fun e w' => ∃ u, e = .returned u ∧ OwnR 211 2 encS w' w.heap.size u ls ∧ Below w.heap.size w w' := by
  have HV := Lib.hid hv
  have HW := Lib.hid (fun w => within_any f t w)
  have HD := Lib.hid (fun v C B w h1 h2 => deleteAll_any v ls f t C B w h1 h2 hin)
  simp only [clo] at HW
  simp only [del] at HD
  go_enter Tryz.func59, Tryz.ntmps59
  go_wp2_with fail
  refine (HW.out _).mono ?_
  rintro e w1 ⟨rfl, hw1⟩
  have HX := Lib.hid (show RBx w1 (w.alloc (.cells #[.int .i64 f, .int .i64 t] 46)).heap.size f t by rw [hw1]; exact heap_alloc_new ..)
  have HB1 := Lib.hid (show Below w.heap.size w w1 by rw [hw1]; exact ((Below.refl _ w).alloc (Nat.le_refl _) _).alloc (by simp) _)
  clear hw1
  generalize (w.alloc (.cells #[.int .i64 f, .int .i64 t] 46)).heap.size = B at HX ⊢
  have HE := Lib.hid (show Env (w1.alloc (.cells #[.func (.func 178) #[] #[.pointer (some ⟨B, 0, none⟩)]] 214)) w1.heap.size B f t from
    ⟨by rw [World.cell?_alloc_at _ _ _ _ rfl]; rfl, HX.out.below ((Below.refl _ _).alloc (Nat.le_refl _) _)⟩)
  have hBl : B < w1.heap.size := (Array.getElem?_eq_some_iff.1 HX.out).1
  have HB2 := Lib.hid (show Below w.heap.size w (w1.alloc (.cells #[.func (.func 178) #[] #[.pointer (some ⟨B, 0, none⟩)]] 214)) from HB1.out.alloc HB1.out.size _)
  go_wp2_with fail
  refine (clone_any v ls _ (HV.out.below HB2.out) hl).mono ?_
  rintro e w3 ⟨u, rfl, ho3, hd3⟩
  have HO3 := Lib.hid ho3
  have HE3 := Lib.hid (HE.out.below hd3)
  have HB3 := Lib.hid (HB2.out.trans (hd3.mono HB2.out.size))
  have HSZ := Lib.hid hd3.size
  have HSZ2 := Lib.hid HB2.out.size
  clear ho3 hd3
  go_wp2_with fail
  refine (HD.out _ _ _ _ HO3.out.samples HE3.out).mono ?_
  rintro e w4 ⟨rfl, hd4⟩
  have HS4 := Lib.hid (HO3.out.below hd4)
  have HB4 := Lib.hid (HB3.out.trans (hd4.mono HB3.out.size))
  clear hd4
  go_wp2_with fail
  go_ret
  exact ⟨_, rfl, ownsRow_base HS4.out HSZ2.out, HB4.out⟩

end Go.Proofs.YtheenlomlmbjaaaGreatDoor.QIn
