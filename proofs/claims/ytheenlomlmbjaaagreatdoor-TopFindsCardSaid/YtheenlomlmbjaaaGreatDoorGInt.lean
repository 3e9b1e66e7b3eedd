/-
  series.Put of rows of many series: what its loops lean on.
-/
import Derived.Test.YtheenlomlmbjaaaGreatDoorFMergeZ
import Derived.Test.YtheenlomlmbjaaaGreatDoorFBin
import Derived.Test.YtheenlomlmbjaaaGreatDoorGBlock
import Derived.Test.YtheenlomlmbjaaaGreatDoorFSer
set_option linter.unusedSimpArgs false
set_option linter.unusedVariables false
namespace Go.Proofs.YtheenlomlmbjaaaGreatDoor
open Go.RowKit Go.Maps

theorem sort_fall (m : List Smp) (h : m.Pairwise fun x y => y.1 < x.1) : sortL ltE m = m.reverse := by
  induction m with
  | nil => rfl
  | cons x m ih =>
    have h' := List.pairwise_cons.1 h
    rw [show x :: m = [x] ++ m from rfl, sortL_append ltE_weak, ih h'.2, sort_one, List.reverse_append]
    have hm := merge_one_front (lt := ltE) (r1 := m.reverse) (r2 := []) (x := x) (fun y hy => by
      have := h'.1 y (List.mem_reverse.1 hy)
      simp [ltE, this]) (by simp)
    rw [List.append_nil] at hm
    exact hm
theorem sort_revG {l : List Smp} (h : RiseC cmpS l) : sortL ltE l.reverse = l := by
  rw [sort_fall, List.reverse_reverse]
  rw [List.pairwise_reverse]
  exact h.imp fun h => cmpS_lt.1 h
theorem riseT_of {l : List Smp} (h : RiseC cmpS l) : RiseT l := by
  intro i h1 h2
  obtain ⟨j, rfl⟩ : ∃ j, i = j + 1 := ⟨i - 1, by omega⟩
  have := cmpS_lt.1 (List.pairwise_iff_getElem.1 h j (j + 1) (by omega) h2 (by omega))
  simpa [List.getD_eq_getElem?_getD, List.getElem?_eq_getElem h2, List.getElem?_eq_getElem (show j < l.length by omega)] using this

def svOf : Value → SlV | .slice a n c => (a, n, c) | _ => (none, 0, 0)
theorem OwnR.slv {α : Type} {t k base : Nat} {enc : α → List Value} {w : World} {v : Value} {l : List α} (h : OwnR t k enc w base v l) : slV (svOf v) = v := by
  rcases h.2 with ⟨rfl, _⟩ | ⟨g, cap, cur, rfl, _⟩ <;> rfl
theorem OwnR.apart {α β : Type} {t u k j : Nat} {e : α → List Value} {f : β → List Value} {w : World} {b c : Nat} {x y : Value} {l : List α} {m : List β} (h : OwnR t k e w b x l) (g : OwnR u j f w c y m) (hne : t ≠ u) : x.ownBlock = none ∨ x.ownBlock ≠ y.ownBlock := by
  rcases h.2 with ⟨rfl, _⟩ | ⟨p, cap, cur, rfl, _, hh, _⟩
  · exact .inl rfl
  · rcases g.2 with ⟨rfl, _⟩ | ⟨q, cap', cur', rfl, _, hh', _⟩
    · exact .inr (fun e => by cases e)
    · refine .inr fun e => ?_
      have e' : p = q := by simpa [Value.ownBlock] using e
      subst e'
      rw [hh] at hh'
      cases hh'
      exact hne rfl
theorem OwnR.kept {α : Type} {t k base : Nat} {enc : α → List Value} {w w' : World} {v : Value} {l : List α} {row : Option Nat} (h : OwnR t k enc w base v l) (hg : w.grownBy w' row) (hne : v.ownBlock = none ∨ v.ownBlock ≠ row) : OwnR t k enc w' base v l := World.ownsRow.kept h hg hne
theorem OwnR.baseLe {α : Type} {t k b b' : Nat} {enc : α → List Value} {w : World} {v : Value} {l : List α} (h : OwnR t k enc w b v l) (hb : b' ≤ b) : OwnR t k enc w b' v l := ownsRow_base h hb

def RngI (b r n : Nat) (D : DataW Value) (ids : List Int) (cnt : Nat) (w : World) : Prop :=
  ∃ left, w.ranges Tryz.prog 3 rawE b r n D left cnt ∧ ∀ id, left (kI id) = true ↔ (Maps.has D (kI id) = true ∧ id ∉ ids)
theorem RngI.start {b r n cnt : Nat} {D : DataW Value} {w : World} (h : w.ranges Tryz.prog 3 rawE b r n D (Maps.has D) cnt) : RngI b r n D [] cnt w := ⟨_, h, fun id => by simp⟩
theorem RngI.kept {b r n cnt : Nat} {D : DataW Value} {ids : List Int} {w w' : World} {row : Option Nat} (h : RngI b r n D ids cnt w) (hg : w.grownBy w' row) (h1 : some b ≠ row) (h2 : some r ≠ row) : RngI b r n D ids cnt w' := by
  obtain ⟨left, h3, h4⟩ := h; exact ⟨left, h3.kept hg h1 h2, h4⟩
theorem RngI.left {b r n cnt : Nat} {D : DataW Value} {ids : List Int} {w : World} (h : RngI b r n D ids cnt w) : w.rangeLeft b r = cnt := by
  obtain ⟨left, h3, _⟩ := h; exact h3.left_eq
theorem RngI.lt {b r n cnt : Nat} {D : DataW Value} {ids : List Int} {w : World} (h : RngI b r n D ids cnt w) : r < w.heap.size ∧ b < w.heap.size := by
  obtain ⟨left, h3, _⟩ := h; exact ⟨h3.lt, h3.owns.lt⟩
theorem next_ids (w : World) {ops : Array Oper} {rest : List Oper} {o : Oper} {a : Act} {Q : Exit → Act → World → Prop} (hg : o.guard = none) (it : Operand) (hop : o.op = Op.next it false) (b r n cnt : Nat) (D : DataW Value) (V : Int → Value) (ids : List Int)
    (hit : a.eval it = .pointer (some ⟨r, 0, none⟩)) (h : RngI b r n D ids cnt w)
    (hat : ∀ id, D.atKey (kI id) (.held nilS) = .held (V id)) (hkeys : ∀ kl, Maps.has D kl = true → ∃ id, kl = kI id ∧ 0 ≤ id ∧ id < 100000)
    (hDone : (∀ id, Maps.has D (kI id) = true → id ∈ ids) → wpList Tryz.prog ops Q rest (a.put o.dst (.tuple #[.bool false])) w)
    (hMore : ∀ id w' cnt', id ∉ ids → Maps.has D (kI id) = true → 0 ≤ id → id < 100000 → RngI b r n D (ids ++ [id]) cnt' w' → cnt' < cnt → w.grownBy w' (some r) → w'.heap.size = w.heap.size →
      (Instr.entry (.pointer (some ⟨r, 0, none⟩))).run Tryz.prog w' = .ok (.tuple #[.int .i64 id, V id]) w' → wpList Tryz.prog ops Q rest (a.put o.dst (.tuple #[.bool true, .int .i64 id, V id])) w') :
    wpList Tryz.prog ops Q (o :: rest) a w := by
  obtain ⟨left, h3, h4⟩ := h
  refine next_grp w hg it hop b r n cnt D V left hit h3 hat hkeys (fun hl => hDone fun id hid => ?_) ?_
  · by_cases hm : id ∈ ids
    · exact hm
    · have := (h4 id).2 ⟨hid, hm⟩
      rw [hl] at this; cases this
  · intro id w' cnt' hl hh h0 h1 hr hlt hgr hsz hen
    refine hMore id w' cnt' ((h4 id).1 hl).2 hh h0 h1 ⟨_, hr, fun z => ?_⟩ hlt hgr hsz hen
    have hk : (kI z).sameKey (kI id) = decide (z = id) := by
      rw [Bool.eq_iff_iff, WideAt.sameKey_iff (show WideAt.IsKeyLit (kI id) from trivial)]
      simp
    rw [Bool.and_eq_true, h4 z, hk]
    simp [and_assoc]

theorem OwnR.setSl {w : World} {base g n cap i : Nat} {L : List Sv} (h : OwnR 49 2 encSv w base (.slice (some ⟨g, 0, none⟩) n cap) L) (hi : i < L.length) (s : SlV) :
    OwnR 49 2 encSv (w.setCell ⟨g, i * 2 + 1, none⟩ (slV s)) base (.slice (some ⟨g, 0, none⟩) n cap) (L.set i ((L.getD i sv0).1, s)) := by
  obtain ⟨h1, h2⟩ := h
  refine ⟨flat_len (enc := encSv) (k := 2) (fun _ => rfl) _, .inr ?_⟩
  rcases h2 with ⟨h2, _⟩ | ⟨g', cap', cur, hv, hg, hh, hn, hcap, hs, htake⟩
  · cases h2
  simp only [Value.slice.injEq, Option.some.injEq, Addr.mk.injEq, and_true, true_and] at hv
  obtain ⟨rfl, rfl, rfl⟩ := hv
  refine ⟨g, cap, cur.setIfInBounds (i * 2 + 1) (slV s), by rw [List.length_set], hg, heap_setE hh, by rw [List.length_set]; exact hn, hcap, by simpa using hs, ?_⟩
  rw [List.length_set, Array.toList_setIfInBounds, List.take_set, htake]
  clear h1 hh hn hcap hs htake hg
  induction L generalizing i with
  | nil => simp at hi
  | cons y r ih =>
    cases i with
    | zero => simp [encSv, slV]
    | succ j =>
      have e : (j + 1) * 2 + 1 = (j * 2 + 1) + 1 + 1 := by omega
      have := ih (i := j) (by simpa using hi)
      simp only [List.flatMap_cons, encSv, e, List.cons_append, List.nil_append, List.set_cons_succ, List.getD_cons_succ] at this ⊢
      rw [this]
theorem sv_block {w : World} {base : Nat} {v : Value} {L : List Sv} (h : OwnR 49 2 encSv w base v L) (hL : L ≠ []) : ∃ g cap, v = .slice (some ⟨g, 0, none⟩) L.length cap ∧ base ≤ g ∧ g < w.heap.size ∧ L.length ≤ cap ∧ cap ≤ 9223372036854775807 ∧ ∀ i, w.frozen? ⟨g, i, none⟩ = false := by
  rcases h.2 with ⟨rfl, h0⟩ | ⟨g, cap, cur, rfl, hg, hh, hn, hcap, hs, htake⟩
  · exact absurd (List.eq_nil_of_length_eq_zero h0) hL
  · exact ⟨g, cap, rfl, hg, lt_of_heap hh, hn, by simp only [maxLen] at hcap; omega, fun i => Lib.frozen_of_heap hh i⟩

def SerB (N : Nat) (w : World) (v : Value) (S : List Ser) : Prop :=
  ∃ Z : List SerZ, S = Z.map zSer ∧ OwnR 49 2 encSv w N v (Z.map zRaw) ∧ ∀ z ∈ Z, OwnR 211 2 encS w N (slV z.2.1) z.2.2
theorem SerB.serV {N : Nat} {w : World} {v : Value} {S : List Ser} (h : SerB N w v S) : SerV w v S := by
  obtain ⟨Z, h1, h2, h3⟩ := h
  exact ⟨Z, h1, h2.rowG, fun z hz => (h3 z hz).rowG⟩

end Go.Proofs.YtheenlomlmbjaaaGreatDoor

namespace Go.Proofs.YtheenlomlmbjaaaGreatDoor
open Go.RowKit Go.Maps

theorem mergeL_perm {α : Type} (lt : α → α → Bool) : ∀ a b : List α, (mergeL lt a b).Perm (a ++ b)
  | [], b => by rw [mergeL_nil_left]; exact List.Perm.refl _
  | x :: a, [] => by rw [mergeL_nil_right, List.append_nil]
  | x :: a, y :: b => by
    cases h : lt y x with
    | true =>
      rw [mergeL_yes lt a b h]
      exact ((mergeL_perm lt (x :: a) b).cons y).trans List.perm_middle.symm
    | false =>
      rw [mergeL_no lt a b h]
      exact (mergeL_perm lt a (y :: b)).cons x
termination_by a b => a.length + b.length
theorem sortL_perm {α : Type} (lt : α → α → Bool) (l : List α) : (sortL lt l).Perm l := by
  have h : ∀ (l s : List α), (l.foldl (fun s y => mergeL lt s [y]) s).Perm (s ++ l) := by
    intro l
    induction l with
    | nil => intro s; simp
    | cons y l ih =>
      intro s
      rw [List.foldl_cons]
      refine (ih _).trans (((mergeL_perm lt s [y]).append_right l).trans ?_)
      simp
  simpa [sortL] using h l []
theorem sort_ids {ids I : List Int} (f : Int → SlV) (hn : ids.Nodup) (hI : I.Pairwise (· < ·)) (hm : ∀ z, z ∈ ids ↔ z ∈ I) : sortL Sr.ltE (ids.map fun id => (id, f id)) = I.map fun id => (id, f id) := by
  obtain ⟨M, hM⟩ : ∃ M, M = sortL Sr.ltE (ids.map fun id => ((id, f id) : Sv)) := ⟨_, rfl⟩
  rw [← hM]
  have hp : M.Perm (ids.map fun id => (id, f id)) := by rw [hM]; exact sortL_perm _ _
  have hz : ∀ z ∈ M, z = (z.1, f z.1) := fun z hz => by
    obtain ⟨id, _, rfl⟩ := List.mem_map.1 (hp.mem_iff.1 hz)
    rfl
  have h1 : M.Pairwise fun x y => Sr.ltE y x = false := by rw [hM]; exact sortL_sorted Sr.ltE_weak _
  have hp2 : (M.map (·.1)).Perm ids := by
    have := hp.map (·.1)
    rwa [List.map_map, show ((fun x : Sv => x.1) ∘ fun id => ((id, f id) : Sv)) = id from rfl, List.map_id] at this
  have h2 : (M.map (·.1)).Nodup := hp2.nodup_iff.2 hn
  have h3 : (M.map (·.1)).Pairwise (· < ·) := by
    unfold List.Nodup at h2
    rw [List.pairwise_map] at h2 ⊢
    refine (h1.and h2).imp ?_
    rintro x y ⟨ha, hb⟩
    simp [Sr.ltE] at ha
    omega
  have h4 : M.map (·.1) = I := rise_ext h3 hI fun z => by rw [hp2.mem_iff]; exact hm z
  rw [← h4, List.map_map]
  conv => lhs; rw [← List.map_id M]
  exact List.map_congr_left fun z h => hz z h

theorem sortG_any (base : Nat) (v : Value) (L : List Sv) (w : World) (h : OwnR 49 2 encSv w base v L) (h12 : L.length ≤ 12) :
    Calls Tryz.prog 112 #[v, idF] w fun e w' => e = .returned (.tuple #[]) ∧ OwnR 49 2 encSv w' base v (sortL Sr.ltE L) ∧ w.grownBy w' v.ownBlock := by
  rcases h.2 with ⟨rfl, h0⟩ | ⟨g, cap, cur, rfl, hg, hh, hn, hcap, hs, htake⟩
  · obtain rfl : L = [] := List.eq_nil_of_length_eq_zero h0
    refine (sortSer_any none 0 0 _ w (by omega)).mono ?_
    rintro e w' ⟨rfl, rfl⟩
    exact ⟨rfl, OwnR.nil _ _, ⟨rfl, rfl, rfl, Nat.le_refl _, fun _ _ _ => rfl⟩⟩
  · have hr : Sr.RowE w g cap L := ⟨hn, hcap, cur, hh, hs, htake⟩
    refine (Sr.sort_any L.length w hr rfl h12).mono ?_
    rintro e w' ⟨rfl, h1, h2⟩
    refine ⟨rfl, ?_, h2⟩
    obtain ⟨k1, k2, cur', k3, k4, k5⟩ := h1
    have hl : (sortL Sr.ltE L).length = L.length := sortL_len _
    refine ⟨flat_len (enc := encSv) (k := 2) (fun _ => rfl) _, .inr ⟨g, cap, cur', by rw [hl], hg, k3, k1, k2, k4, k5⟩⟩

set_option maxRecDepth 100000 in
theorem mergeM_any (a b : Value) (la lb : List Smp) (w : World) (ha : RowG 2 encS w a la) (hb : RowG 2 encS w b lb) (hl : la.length ≤ 100000) (hl2 : lb.length ≤ 100000) :
    Calls Tryz.prog 114 #[a, b] w fun e w' => ∃ u, e = .returned u ∧ OwnR 211 2 encS w' w.heap.size u (mergeF cmpS la lb) ∧ Below w.heap.size w w' := by
  have HC := Lib.hid (mergeS_any a b la lb w ha hb hl hl2)
  unfold timeF at HC
  obtain ⟨aa, ca, rfl, -⟩ := ha
  obtain ⟨ab, cb, rfl, -⟩ := hb
  go_enter Tryz.func114, Tryz.ntmps114
  go_wp2_with fail
  refine HC.out.mono ?_
  rintro e w1 ⟨u, rfl, ho, hb1⟩
  have HO := Lib.hid ho
  have HB := Lib.hid hb1
  clear ho hb1
  go_wp2_with fail
  go_ret
  exact ⟨_, rfl, HO.out, HB.out⟩

end Go.Proofs.YtheenlomlmbjaaaGreatDoor

namespace Go.Proofs.YtheenlomlmbjaaaGreatDoor
open Go.RowKit Go.Maps

structure PutJ (w : World) (R : List Rw) (r nm : Nat) (D : DataW Value) (V : Int → Value) (ids idsL : List Int) (cnt : Nat) (v : Value) (z : Int) (l : List Smp) (wr : World) : Prop where
  rng : RngI w.heap.size r nm D ids cnt wr
  own : ∀ id, OwnR 211 2 encS wr (w.heap.size + 1) (V id) (if id = z then l else smpOf R id)
  more : OwnR 49 2 encSv wr (r + 1) v (idsL.map fun id => (id, svOf (V id)))
  be : Below w.heap.size w wr
  br : w.heap.size < r
  low : ∀ id j, (V id).ownBlock = some j → j < r
  ap : ∀ id id', id ≠ id' → (V id).ownBlock = none ∨ (V id).ownBlock ≠ (V id').ownBlock
section
variable {w : World} {R : List Rw} {r nm : Nat} {D : DataW Value} {V : Int → Value} {ids idsL : List Int} {cnt : Nat} {v : Value} {z : Int} {l : List Smp} {wr : World}
theorem PutJ.next {w3 : World} {cnt3 : Nat} {ids3 : List Int} (h : PutJ w R r nm D V ids idsL cnt v z l wr) (hr : RngI w.heap.size r nm D ids3 cnt3 w3) (hg : wr.grownBy w3 (some r)) : PutJ w R r nm D V ids3 idsL cnt3 v z l w3 :=
  ⟨hr, fun id => (h.own id).kept hg (by
    cases hv : (V id).ownBlock with
    | none => exact .inl rfl
    | some j => exact .inr fun e => by have := h.low id j hv; have := Option.some.inj e; omega),
   h.more.kept hg (by
    cases hv : v.ownBlock with
    | none => exact .inl rfl
    | some j => exact .inr fun e => by have := (World.ownsRow.lt h.more j hv).1; have := Option.some.inj e; omega),
   h.be.grown hg h.be.size (fun j hj => by cases hj; have := h.br; omega), h.br, h.low, h.ap⟩
theorem PutJ.turn {w3 : World} {g : Nat} {l' : List Smp} (h : PutJ w R r nm D V ids idsL cnt v z l wr) (hz : (V z).ownBlock = some g) (hg : wr.grownBy w3 (some g)) (ho : OwnR 211 2 encS w3 (w.heap.size + 1) (V z) l') : PutJ w R r nm D V ids idsL cnt v z l' w3 := by
  have hgr := h.low z g hz
  have hgb : w.heap.size + 1 ≤ g := (World.ownsRow.lt ho g hz).1
  refine ⟨h.rng.kept hg (fun e => by have := Option.some.inj e; omega) (fun e => by have := Option.some.inj e; omega), fun id => ?_, h.more.kept hg ?_, h.be.grown hg h.be.size (fun j hj => by cases hj; omega), h.br, h.low, h.ap⟩
  · by_cases e : id = z
    · subst e; rw [if_pos rfl]; exact ho
    · rw [if_neg e]
      have := h.own id
      rw [if_neg e] at this
      refine this.kept hg ?_
      rw [← hz]
      exact h.ap id z e
  · cases hv : v.ownBlock with
    | none => exact .inl rfl
    | some j => exact .inr fun e => by have := (World.ownsRow.lt h.more j hv).1; have := Option.some.inj e; omega
theorem PutJ.below {w3 : World} (h : PutJ w R r nm D V ids idsL cnt v z l wr) (hb : Below wr.heap.size wr w3) : PutJ w R r nm D V ids idsL cnt v z l w3 :=
  ⟨h.rng.kept (row := none) (gb_of_below hb none) (by simp) (by simp), fun id => (h.own id).below hb, h.more.below hb, h.be.trans (hb.mono h.be.size), h.br, h.low, h.ap⟩
theorem PutJ.gather {w3 : World} {v' : Value} (h : PutJ w R r nm D V ids idsL cnt v z l wr) (hg : wr.grownBy w3 v.ownBlock) (ho : OwnR 49 2 encSv w3 (r + 1) v' ((idsL.map fun id => (id, svOf (V id))) ++ [(z, svOf (V z))])) :
    PutJ w R r nm D V ids (idsL ++ [z]) cnt v' z l w3 := by
  have hne : ∀ k, k ≤ r → some k ≠ v.ownBlock := fun k hk e => by have := (World.ownsRow.lt h.more k e.symm).1; omega
  refine ⟨h.rng.kept hg (hne _ (by have := h.br; omega)) (hne _ (Nat.le_refl _)), fun id => (h.own id).kept hg (OwnR.apart (h.own id) h.more (by decide)), ?_, h.be.grown hg h.be.size (fun j hj => by have := (World.ownsRow.lt h.more j hj).1; have := h.br; omega), h.br, h.low, h.ap⟩
  rw [List.map_append]
  exact ho
end

structure PutI (w : World) (R : List Rw) (r nm : Nat) (D : DataW Value) (V : Int → Value) (ids : List Int) (cnt : Nat) (v : Value) (wr : World) : Prop where
  j : ∀ z, PutJ w R r nm D V ids ids cnt v z (smpOf R z) wr
  nodup : ids.Nodup
  has : ∀ id ∈ ids, Maps.has D (kI id) = true
theorem PutI.start {w : World} {R : List Rw} {nm cnt : Nat} {D : DataW Value} {V : Int → Value} {wr w2 : World} (hr : w2.ranges Tryz.prog 3 rawE w.heap.size wr.heap.size nm D (Maps.has D) cnt)
    (ho : ∀ id, OwnR 211 2 encS wr (w.heap.size + 1) (V id) (smpOf R id)) (ha : ∀ id id', id ≠ id' → (V id).ownBlock = none ∨ (V id).ownBlock ≠ (V id').ownBlock) (hg : wr.grownBy w2 none) (hb : Below w.heap.size w wr) (hlt : w.heap.size < wr.heap.size) : PutI w R wr.heap.size nm D V [] cnt (.slice none 0 0) w2 := by
  refine ⟨fun z => ⟨RngI.start hr, fun id => ?_, OwnR.nil _ _, hb.grown hg hb.size (fun j hj => by cases hj), hlt, fun id j hj => (World.ownsRow.lt (ho id) j hj).2, ha⟩, List.nodup_nil, (fun _ h => by cases h)⟩
  have e : (if id = z then smpOf R z else smpOf R id) = smpOf R id := by split; (rename_i h; rw [h]); rfl
  rw [e]
  refine (ho id).kept hg ?_
  cases h : (V id).ownBlock with
  | none => exact .inl rfl
  | some j => exact .inr (by simp)
theorem PutI.more {w : World} {R : List Rw} {r nm : Nat} {D : DataW Value} {V : Int → Value} {ids : List Int} {cnt cnt' : Nat} {v v' : Value} {wr w' : World} {z : Int} (h : PutI w R r nm D V ids cnt v wr) (hz : z ∉ ids) (hh : Maps.has D (kI z) = true)
    (hj : PutJ w R r nm D V (ids ++ [z]) (ids ++ [z]) cnt' v' z (smpOf R z) w') : PutI w R r nm D V (ids ++ [z]) cnt' v' w' := by
  refine ⟨fun y => ⟨hj.rng, fun id => ?_, hj.more, hj.be, hj.br, hj.low, hj.ap⟩, ?_, fun id hid => ?_⟩
  · have e : ∀ y, (if id = y then smpOf R y else smpOf R id) = smpOf R id := fun y => by split; (rename_i h; rw [h]); rfl
    have := hj.own id
    rw [e] at this ⊢
    exact this
  · rw [List.nodup_append]
    refine ⟨h.nodup, by simp, fun a ha b hb e => ?_⟩
    simp at hb
    subst hb
    exact hz (e ▸ ha)
  · rcases List.mem_append.1 hid with h1 | h1
    · exact h.has id h1
    · simp at h1; subst h1; exact hh

theorem nodup_le {a b : List Int} (hn : a.Nodup) (h : ∀ z ∈ a, z ∈ b) : a.length ≤ b.length := by
  induction a generalizing b with
  | nil => simp
  | cons x a ih =>
    have hn' := List.nodup_cons.1 hn
    have hx := h x (List.mem_cons_self ..)
    have h1 := ih (b := b.erase x) hn'.2 fun z hz => (List.mem_erase_of_ne (fun (e : z = x) => hn'.1 (by rw [← e]; exact hz))).2 (h z (List.mem_cons_of_mem _ hz))
    rw [List.length_erase_of_mem hx] at h1
    have : 0 < b.length := List.length_pos_of_mem hx
    simp only [List.length_cons]
    omega
theorem smpOf_ne {R : List Rw} {id : Int} : smpOf R id ≠ [] ↔ id ∈ idsOf R := by
  rw [idsOf_mem]
  constructor
  · intro h
    obtain ⟨p, hp⟩ := List.exists_mem_of_ne_nil _ h
    exact ⟨_, smpOf_mem.1 hp, rfl⟩
  · rintro ⟨r, hr, rfl⟩ h
    have : (r.1, r.2.2) ∈ smpOf R r.2.1 := smpOf_mem.2 hr
    rw [h] at this
    cases this

def more0 (R : List Rw) : List Ser := (idsOf R).map fun id => (id, smpOf R id)
def PutK (w : World) (S : List Ser) (R : List Rw) (v : Value) (k : Nat) (wr : World) : Prop :=
  ∃ Z : List SerZ, OwnR 49 2 encSv wr (w.heap.size + 1) v (Z.map zRaw) ∧ (∀ z ∈ Z, OwnR 211 2 encS wr (w.heap.size + 1) (slV z.2.1) z.2.2) ∧
    Z.map zSer = (moreOf S R).take k ++ (more0 R).drop k ∧ Below w.heap.size w wr
theorem more0_len (R : List Rw) : (more0 R).length = (idsOf R).length := by simp [more0]
theorem moreOf_len (S : List Ser) (R : List Rw) : (moreOf S R).length = (idsOf R).length := by simp [moreOf]
theorem PutK.start {w : World} {S : List Ser} {R : List Rw} {r nm : Nat} {D : DataW Value} {V : Int → Value} {ids : List Int} {cnt : Nat} {v : Value} {wr w4 : World} (h : PutI w R r nm D V ids cnt v wr) (hd : ∀ id, Maps.has D (kI id) = true ↔ id ∈ idsOf R) (hdone : ∀ id, Maps.has D (kI id) = true → id ∈ ids)
    (ho : OwnR 49 2 encSv w4 (r + 1) v (sortL Sr.ltE (ids.map fun id => (id, svOf (V id))))) (hg : wr.grownBy w4 v.ownBlock) : PutK w S R v 0 w4 := by
  have hj := h.j 0
  have e := sort_ids (ids := ids) (I := idsOf R) (fun id => svOf (V id)) h.nodup (idsOf_rise R) (fun z => ⟨fun hz => (hd z).1 (h.has z hz), fun hz => hdone z ((hd z).2 hz)⟩)
  rw [e] at ho
  refine ⟨(idsOf R).map fun id => (id, svOf (V id), smpOf R id), ?_, ?_, ?_, hj.be.grown hg hj.be.size (fun j hj' => by have := (World.ownsRow.lt hj.more j hj').1; have := hj.br; omega)⟩
  · rw [List.map_map]
    exact ho.baseLe (by have := hj.br; omega)
  · intro z hz
    obtain ⟨id, _, rfl⟩ := List.mem_map.1 hz
    have h1 := (h.j id).own id
    rw [if_pos rfl] at h1
    simp only
    rw [h1.slv]
    exact h1.kept hg (OwnR.apart h1 hj.more (by decide))
  · rw [List.map_map, List.take_zero, List.drop_zero, List.nil_append]
    rfl

end Go.Proofs.YtheenlomlmbjaaaGreatDoor

namespace Go.Proofs.YtheenlomlmbjaaaGreatDoor
open Go.RowKit Go.Maps

def idK (R : List Rw) (k : Nat) : Int := (idsOf R).getD k 0
theorem step_same {α : Type} {A B : List α} {k : Nat} (hA : k < A.length) (hB : k < B.length) (h : A[k] = B[k]) : A.take k ++ B.drop k = A.take (k + 1) ++ B.drop (k + 1) := by
  rw [List.drop_eq_getElem_cons hB, ← List.take_append_getElem hA, h]
  simp
theorem step_set {α : Type} {A B : List α} {k : Nat} (hA : k < A.length) (hB : k < B.length) : (A.take k ++ B.drop k).set k A[k] = A.take (k + 1) ++ B.drop (k + 1) := by
  have hl : (A.take k).length = k := by rw [List.length_take]; omega
  rw [List.drop_eq_getElem_cons hB, ← List.take_append_getElem hA]
  rw [List.set_append_right k (A[k]) (by omega), hl, Nat.sub_self, List.set_cons_zero, List.append_assoc]
  rfl
theorem more0_at {R : List Rw} {k : Nat} (h : k < (idsOf R).length) : (more0 R)[k]'(by rw [more0_len]; exact h) = (idK R k, smpOf R (idK R k)) := by
  simp [more0, idK, List.getD_eq_getElem?_getD, List.getElem?_eq_getElem h]
theorem moreOf_at {S : List Ser} {R : List Rw} {k : Nat} (h : k < (idsOf R).length) : (moreOf S R)[k]'(by rw [moreOf_len]; exact h) = (idK R k, mergeF cmpS (oldOf S (idK R k)) (smpOf R (idK R k))) := by
  simp [moreOf, idK, List.getD_eq_getElem?_getD, List.getElem?_eq_getElem h]
theorem oldOf_no {S : List Ser} {x : Int} (h : ∀ m, m < S.length → idAt S m ≠ x) : oldOf S x = [] := by
  unfold oldOf
  have : (S.find? fun s => s.1 == x) = none := by
    rw [List.find?_eq_none]
    intro s hs e
    obtain ⟨m, hm, rfl⟩ := List.getElem_of_mem hs
    exact h m hm (by simpa [idAt, List.getD_eq_getElem?_getD, List.getElem?_eq_getElem hm] using e)
  rw [this]; rfl
theorem oldOf_at {S : List Ser} {x : Int} {m : Nat} (hr : RiseC cmpS S) (hm : m < S.length) (h : idAt S m = x) : oldOf S x = (S.getD m (0, [])).2 := by
  rcases oldOf_mem (l := S) (id := x) with e | ⟨s, hs, he, e⟩
  · unfold oldOf at e ⊢
    cases hf : S.find? fun s => s.1 == x with
    | none =>
      rw [List.find?_eq_none] at hf
      exact absurd (by simpa [idAt, List.getD_eq_getElem?_getD, List.getElem?_eq_getElem hm] using h) (hf _ (List.getElem_mem hm))
    | some s =>
      have h1 := List.mem_of_find?_eq_some hf
      have h2 : s.1 = x := by simpa using List.find?_some hf
      obtain ⟨j, hj, rfl⟩ := List.getElem_of_mem h1
      have hj2 : idAt S j = x := by simpa [idAt, List.getD_eq_getElem?_getD, List.getElem?_eq_getElem hj] using h2
      have hjm : j = m := by
        rcases Nat.lt_trichotomy j m with h' | h' | h'
        · have := idAt_lt hr h' hm; omega
        · exact h'
        · have := idAt_lt hr h' hj; omega
      subst hjm
      simp [List.getD_eq_getElem?_getD, List.getElem?_eq_getElem hj]
  · rw [e]
    obtain ⟨j, hj, rfl⟩ := List.getElem_of_mem hs
    have hj2 : idAt S j = x := by simpa [idAt, List.getD_eq_getElem?_getD, List.getElem?_eq_getElem hj] using he
    have hjm : j = m := by
      rcases Nat.lt_trichotomy j m with h' | h' | h'
      · have := idAt_lt hr h' hm; omega
      · exact h'
      · have := idAt_lt hr h' hj; omega
    subst hjm
    simp [List.getD_eq_getElem?_getD, List.getElem?_eq_getElem hj]

theorem OwnR.isSl {α : Type} {t k base : Nat} {enc : α → List Value} {w : World} {v : Value} {l : List α} (h : OwnR t k enc w base v l) : ∃ a n c, v = .slice a n c := by
  rcases h.2 with ⟨rfl, _⟩ | ⟨g, cap, cur, rfl, _⟩ <;> exact ⟨_, _, _, rfl⟩
section
variable {w : World} {S : List Ser} {R : List Rw} {v : Value} {k : Nat} {wr : World}
theorem PutK.at_ (h : PutK w S R v k wr) {i : Nat} (hki : k ≤ i) (hi : i < (idsOf R).length) : ∃ g cap sl, v = .slice (some ⟨g, 0, none⟩) (idsOf R).length cap ∧ w.heap.size < g ∧ g < wr.heap.size ∧ (∀ j, wr.frozen? ⟨g, j, none⟩ = false) ∧
    wr.cell? ⟨g, i * 2, none⟩ = some (.int .i64 (idK R i)) ∧ wr.cell? ⟨g, i * 2 + 1, none⟩ = some (slV sl) ∧ RowG 2 encS wr (slV sl) (smpOf R (idK R i)) := by
  obtain ⟨Z, h1, h2, h3, h4⟩ := h
  have hl : Z.length = (idsOf R).length := by
    have := congrArg List.length h3
    rw [List.length_map, List.length_append, List.length_take, List.length_drop, more0_len, moreOf_len] at this
    omega
  have hne : Z.map zRaw ≠ [] := by
    intro e
    have h0 : (Z.map zRaw).length = 0 := by rw [e]; rfl
    rw [List.length_map] at h0
    omega
  obtain ⟨g, cap, rfl, hg, hgl, hc, hm, hf⟩ := sv_block h1 hne
  obtain ⟨a', c', hv', _, _, hcell⟩ := OwnR.open_ (enc := encSv) (k := 2) (fun _ => rfl) sv0 h1
  rw [List.length_map] at hcell hv' ⊢
  obtain ⟨g', ha', _, _, hcs⟩ := hcell (by omega)
  simp only [Value.slice.injEq] at hv'
  obtain ⟨hva, _, _⟩ := hv'
  rw [ha'] at hva
  simp only [Option.some.injEq, Addr.mk.injEq, and_true] at hva
  subst hva
  have hiZ : i < Z.length := by omega
  have e1 := getD_map zRaw Z i (0, (none, 0, 0), []) sv0 hiZ
  have hz := h2 _ (getD_mem' (0, (none, 0, 0), []) hiZ)
  have h0 := hcs i hiZ 0 (by omega)
  have h01 := hcs i hiZ 1 (by omega)
  rw [e1] at h0 h01
  have e2 := getD_map zSer Z i (0, (none, 0, 0), []) (0, []) hiZ
  have e3 : (Z.map zSer).getD i (0, []) = (idK R i, smpOf R (idK R i)) := by
    rw [h3, List.getD_eq_getElem?_getD, List.getElem?_append_right (by rw [List.length_take]; omega), List.getElem?_drop, List.length_take, moreOf_len]
    rw [show k + (i - min k (idsOf R).length) = i by omega, List.getElem?_eq_getElem (by rw [more0_len]; exact hi), more0_at hi]
    rfl
  rw [e3] at e2
  have e4 : (Z.getD i (0, (none, 0, 0), [])).1 = idK R i := (congrArg Prod.fst e2).symm
  have e5 : (Z.getD i (0, (none, 0, 0), [])).2.2 = smpOf R (idK R i) := (congrArg Prod.snd e2).symm
  rw [e5] at hz
  refine ⟨g, cap, (Z.getD i (0, (none, 0, 0), [])).2.1, by rw [hl], hg, hgl, hf, ?_, h01, hz.rowG⟩
  rw [← e4]; exact h0
theorem PutK.keep {w' : World} (h : PutK w S R v k wr) (hk : k < (idsOf R).length) (ho : oldOf S (idK R k) = []) (hb : Below wr.heap.size wr w') : PutK w S R v (k + 1) w' := by
  obtain ⟨Z, h1, h2, h3, h4⟩ := h
  refine ⟨Z, h1.below hb, fun z hz => (h2 z hz).below hb, ?_, h4.trans (hb.mono h4.size)⟩
  rw [h3]
  refine step_same (by rw [moreOf_len]; exact hk) (by rw [more0_len]; exact hk) ?_
  rw [more0_at hk, moreOf_at hk, ho, mergeF_nil]
theorem PutK.put {w' : World} {g n cap : Nat} {u : SlV} (h : PutK w S R (.slice (some ⟨g, 0, none⟩) n cap) k wr) (hk : k < (idsOf R).length) (hb : Below wr.heap.size wr w') (hgw : w.heap.size ≤ g)
    (ho : OwnR 211 2 encS w' (w.heap.size + 1) (slV u) (mergeF cmpS (oldOf S (idK R k)) (smpOf R (idK R k)))) : PutK w S R (.slice (some ⟨g, 0, none⟩) n cap) (k + 1) (w'.setCell ⟨g, k * 2 + 1, none⟩ (slV u)) := by
  obtain ⟨Z, h1, h2, h3, h4⟩ := h
  have hl : Z.length = (idsOf R).length := by
    have := congrArg List.length h3
    rw [List.length_map, List.length_append, List.length_take, List.length_drop, more0_len, moreOf_len] at this
    omega
  have hkZ : k < Z.length := by omega
  have h1' := h1.below hb
  have hset := OwnR.setSl h1' (i := k) (by rw [List.length_map]; exact hkZ) u
  have e1 := getD_map zRaw Z k (0, (none, 0, 0), []) sv0 hkZ
  have e4 : (Z.getD k (0, (none, 0, 0), [])).1 = idK R k := by
    have e2 := getD_map zSer Z k (0, (none, 0, 0), []) (0, []) hkZ
    rw [h3, List.getD_eq_getElem?_getD, List.getElem?_append_right (by rw [List.length_take]; omega), List.getElem?_drop, List.length_take, moreOf_len,
      show k + (k - min k (idsOf R).length) = k by omega, List.getElem?_eq_getElem (by rw [more0_len]; exact hk), more0_at hk] at e2
    exact (congrArg Prod.fst e2).symm
  rw [e1] at hset
  have hgb : ∀ (z : SerZ), OwnR 211 2 encS w' (w.heap.size + 1) (slV z.2.1) z.2.2 → OwnR 211 2 encS (w'.setCell ⟨g, k * 2 + 1, none⟩ (slV u)) (w.heap.size + 1) (slV z.2.1) z.2.2 := fun z hz =>
    hz.kept (row := some g) (Out.setCell w' ⟨g, k * 2 + 1, none⟩ (slV u)).toGrown (OwnR.apart hz h1' (by decide))
  refine ⟨Z.set k (idK R k, u, mergeF cmpS (oldOf S (idK R k)) (smpOf R (idK R k))), ?_, ?_, ?_, (h4.trans (hb.mono h4.size)).setCell hgw _⟩
  · rw [List.map_set]
    rw [show zRaw (idK R k, u, mergeF cmpS (oldOf S (idK R k)) (smpOf R (idK R k))) = ((zRaw (Z.getD k (0, (none, 0, 0), []))).1, u) from by rw [← e4]; rfl]
    exact hset
  · intro z hz
    rcases List.mem_or_eq_of_mem_set hz with hz | rfl
    · exact hgb z ((h2 z hz).below hb)
    · exact hgb _ ho
  · rw [List.map_set, h3]
    rw [← step_set (A := moreOf S R) (by rw [moreOf_len]; exact hk) (by rw [more0_len]; exact hk), moreOf_at hk]
    rfl
end

theorem PutK.fin {w : World} {S : List Ser} {R : List Rw} {v : Value} {k : Nat} {wr : World} (h : PutK w S R v k wr) (hk : k = (idsOf R).length) :
    ∃ Z : List SerZ, moreOf S R = Z.map zSer ∧ OwnR 49 2 encSv wr (w.heap.size + 1) v (Z.map zRaw) ∧ (∀ z ∈ Z, OwnR 211 2 encS wr (w.heap.size + 1) (slV z.2.1) z.2.2) ∧ Below w.heap.size w wr := by
  obtain ⟨Z, h1, h2, h3, h4⟩ := h
  refine ⟨Z, ?_, h1, h2, h4⟩
  rw [h3, List.take_of_length_le (by rw [moreOf_len]; omega), List.drop_of_length_le (by rw [more0_len]; omega), List.append_nil]

def PutC (w W : World) (T : List Ser) (v : Value) (k : Nat) (wr : World) : Prop :=
  ∃ Z : List SerZ, T = Z.map zSer ∧ OwnR 49 2 encSv wr w.heap.size v (Z.map zRaw) ∧
    (∀ i, k ≤ i → i < Z.length → RowG 2 encS w (slV (Z.getD i (0, (none, 0, 0), [])).2.1) (Z.getD i (0, (none, 0, 0), [])).2.2 ∨
      OwnR 211 2 encS wr w.heap.size (slV (Z.getD i (0, (none, 0, 0), [])).2.1) (Z.getD i (0, (none, 0, 0), [])).2.2) ∧
    (∀ i, i < k → i < Z.length → OwnR 211 2 encS wr w.heap.size (slV (Z.getD i (0, (none, 0, 0), [])).2.1) (Z.getD i (0, (none, 0, 0), [])).2.2) ∧ Below w.heap.size w wr
theorem cmpS_map {A B : List SerZ} {α : Type} (f : SerZ → Int × α) (hf : ∀ z, (f z).1 = z.1) : mergeF cmpS (A.map f) (B.map f) = (mergeF (fun x y => cmpI x.1 y.1) A B).map f := by
  fun_induction mergeF (fun x y : SerZ => cmpI x.1 y.1) A B with
  | case1 b => rw [List.map_nil, mergeF_nil]
  | case2 x a => rw [List.map_nil, mergeF_nil']
  | case3 x a y b h1 ih => rw [List.map_cons, List.map_cons, mergeF_lt (by unfold cmpS; rw [hf, hf]; exact h1), List.map_cons, ← ih, List.map_cons]
  | case4 x a y b h1 h2 ih => rw [List.map_cons, List.map_cons, mergeF_eq (by unfold cmpS; rw [hf, hf]; exact h2), List.map_cons, ← ih]
  | case5 x a y b h1 h2 ih => rw [List.map_cons, List.map_cons, mergeF_gt (by unfold cmpS; rw [hf, hf]; omega), List.map_cons, ← ih, List.map_cons]
theorem PutC.start {w wr w5 : World} {S : List Ser} {R : List Rw} {ZS ZM : List SerZ} {u : Value} (hb : Below w.heap.size w wr) (hS : S = ZS.map zSer) (hS2 : ∀ z ∈ ZS, RowG 2 encS w (slV z.2.1) z.2.2) (hM : moreOf S R = ZM.map zSer)
    (hM2 : ∀ z ∈ ZM, OwnR 211 2 encS wr (w.heap.size + 1) (slV z.2.1) z.2.2) (ho : OwnR 49 2 encSv w5 wr.heap.size u (mergeF cmpS (ZS.map zRaw) (ZM.map zRaw))) (hb5 : Below wr.heap.size wr w5) :
    PutC w w5 (putL S R) u 0 w5 := by
  refine ⟨mergeF (fun x y => cmpI x.1 y.1) ZS ZM, ?_, ?_, fun i _ hi => ?_, fun i h _ => by omega, hb.trans (hb5.mono hb.size)⟩
  · unfold putL
    rw [hM]
    conv => lhs; arg 2; rw [hS]
    exact cmpS_map zSer fun _ => rfl
  · rw [← cmpS_map zRaw fun _ => rfl]
    exact ho.baseLe hb.size
  · rcases mergeF_mem (getD_mem' (0, (none, 0, 0), []) hi) with h | h
    · exact .inl (hS2 _ h)
    · exact .inr (((hM2 _ h).below hb5).baseLe (by omega))
theorem putL_lens {S : List Ser} {R : List Rw} (ht : tot S ≤ 1000) (h12 : ∀ id, (smpOf R id).length ≤ 12) : ∀ s ∈ putL S R, s.2.length ≤ 2000 := by
  intro s hs
  rcases mergeF_mem hs with h | h
  · have := tot_get h; omega
  · obtain ⟨id, _, rfl⟩ := List.mem_map.1 h
    have h1 := mergeF_len cmpS (oldOf S id) (smpOf R id)
    have h2 := h12 id
    have h3 : (oldOf S id).length ≤ 1000 := by
      rcases oldOf_mem (l := S) (id := id) with e | ⟨s, hs, _, e⟩
      · rw [e]; simp
      · rw [e]; have := tot_get hs; omega
    simp only
    omega
section
variable {w W wr : World} {T : List Ser} {v : Value} {k : Nat}
theorem PutC.len (h : PutC w W T v k wr) : ∃ a c, v = .slice a T.length c ∧ T.length ≤ c ∧ c ≤ 9223372036854775807 := by
  obtain ⟨Z, rfl, h2, -⟩ := h
  obtain ⟨a, c, hv, h4, h5, -⟩ := OwnR.open_ (enc := encSv) (k := 2) (fun _ => rfl) sv0 h2
  rw [List.length_map] at hv h4 ⊢
  exact ⟨a, c, hv, h4, h5⟩
theorem PutC.be (h : PutC w W T v k wr) : Below w.heap.size w wr := by obtain ⟨Z, _, _, _, _, h⟩ := h; exact h
theorem PutC.at_ (h : PutC w W T v k wr) (hk : k < T.length) : ∃ g cap sl l, v = .slice (some ⟨g, 0, none⟩) T.length cap ∧ w.heap.size ≤ g ∧ g < wr.heap.size ∧ (∀ j, wr.frozen? ⟨g, j, none⟩ = false) ∧
    wr.cell? ⟨g, k * 2 + 1, none⟩ = some (slV sl) ∧ RowG 2 encS wr (slV sl) l ∧ l = (T.getD k (0, [])).2 := by
  obtain ⟨Z, rfl, h2, h3, h4, h5⟩ := h
  rw [List.length_map] at hk
  have hne : Z.map zRaw ≠ [] := by
    intro e
    have h0 : (Z.map zRaw).length = 0 := by rw [e]; rfl
    rw [List.length_map] at h0
    omega
  obtain ⟨g, cap, rfl, hg, hgl, hc, hm, hf⟩ := sv_block h2 hne
  obtain ⟨a', c', hv', _, _, hcell⟩ := OwnR.open_ (enc := encSv) (k := 2) (fun _ => rfl) sv0 h2
  rw [List.length_map] at hcell hv' ⊢
  obtain ⟨g', ha', _, _, hcs⟩ := hcell (by omega)
  simp only [Value.slice.injEq] at hv'
  obtain ⟨hva, _, _⟩ := hv'
  rw [ha'] at hva
  simp only [Option.some.injEq, Addr.mk.injEq, and_true] at hva
  subst hva
  have e1 := getD_map zRaw Z k (0, (none, 0, 0), []) sv0 hk
  have h01 := hcs k hk 1 (by omega)
  rw [e1] at h01
  have e2 := getD_map zSer Z k (0, (none, 0, 0), []) (0, []) hk
  refine ⟨g, cap, (Z.getD k (0, (none, 0, 0), [])).2.1, (Z.getD k (0, (none, 0, 0), [])).2.2, by rw [List.length_map], hg, hgl, hf, h01, ?_, by rw [e2]; rfl⟩
  rcases h3 k (Nat.le_refl _) hk with h | h
  · exact h.below h5
  · exact h.rowG
theorem PutC.put {w' : World} {g n cap : Nat} {u : SlV} (h : PutC w W T (.slice (some ⟨g, 0, none⟩) n cap) k wr) (hk : k < T.length) (hb : Below wr.heap.size wr w') (hgw : w.heap.size ≤ g)
    (ho : OwnR 211 2 encS w' w.heap.size (slV u) (T.getD k (0, [])).2) : PutC w W T (.slice (some ⟨g, 0, none⟩) n cap) (k + 1) (w'.setCell ⟨g, k * 2 + 1, none⟩ (slV u)) := by
  obtain ⟨Z, hT, h1, h2, h3, h4⟩ := h
  have hkZ : k < Z.length := by rw [hT, List.length_map] at hk; exact hk
  have h1' := h1.below hb
  have hset := OwnR.setSl h1' (i := k) (by rw [List.length_map]; exact hkZ) u
  have e1 := getD_map zRaw Z k (0, (none, 0, 0), []) sv0 hkZ
  have e2 := getD_map zSer Z k (0, (none, 0, 0), []) (0, []) hkZ
  rw [← hT] at e2
  rw [e1] at hset
  have hkeep : ∀ (z : SerZ), OwnR 211 2 encS w' w.heap.size (slV z.2.1) z.2.2 → OwnR 211 2 encS (w'.setCell ⟨g, k * 2 + 1, none⟩ (slV u)) w.heap.size (slV z.2.1) z.2.2 := fun z hz =>
    hz.kept (row := some g) (Out.setCell w' ⟨g, k * 2 + 1, none⟩ (slV u)).toGrown (OwnR.apart hz h1' (by decide))
  rw [e2] at ho
  have hk1 := hkeep ((Z.getD k (0, (none, 0, 0), [])).1, u, (Z.getD k (0, (none, 0, 0), [])).2.2) ho
  have hget : ∀ i, i ≠ k → (Z.set k ((Z.getD k (0, (none, 0, 0), [])).1, u, (Z.getD k (0, (none, 0, 0), [])).2.2)).getD i (0, (none, 0, 0), []) = Z.getD i (0, (none, 0, 0), []) := fun i hi => by
    rw [List.getD_eq_getElem?_getD, List.getElem?_set_ne (fun e => hi e.symm), ← List.getD_eq_getElem?_getD]
  have hgetk : (Z.set k ((Z.getD k (0, (none, 0, 0), [])).1, u, (Z.getD k (0, (none, 0, 0), [])).2.2)).getD k (0, (none, 0, 0), []) = ((Z.getD k (0, (none, 0, 0), [])).1, u, (Z.getD k (0, (none, 0, 0), [])).2.2) := by
    rw [List.getD_eq_getElem?_getD, List.getElem?_set_self hkZ]; rfl
  refine ⟨Z.set k ((Z.getD k (0, (none, 0, 0), [])).1, u, (Z.getD k (0, (none, 0, 0), [])).2.2), ?_, ?_, fun i hi hil => ?_, fun i hi hil => ?_, (h4.trans (hb.mono h4.size)).setCell hgw _⟩
  · rw [List.map_set, hT]
    have : zSer ((Z.getD k (0, (none, 0, 0), [])).1, u, (Z.getD k (0, (none, 0, 0), [])).2.2) = (Z.map zSer)[k]'(by rw [List.length_map]; exact hkZ) := by
      rw [List.getElem_map, List.getD_eq_getElem?_getD, List.getElem?_eq_getElem hkZ]; rfl
    rw [this, List.set_getElem_self]
  · rw [List.map_set]
    exact hset
  · rw [List.length_set] at hil
    rw [hget i (by omega)]
    rcases h2 i (by omega) hil with h | h
    · exact .inl h
    · exact .inr (hkeep _ (h.below hb))
  · rw [List.length_set] at hil
    by_cases e : i = k
    · subst e; rw [hgetk]; exact hk1
    · rw [hget i e]; exact hkeep _ ((h3 i (by omega) hil).below hb)
theorem PutC.fin (h : PutC w W T v k wr) (hk : k = T.length) : SerB w.heap.size wr v T ∧ Below w.heap.size w wr := by
  obtain ⟨Z, hT, h1, h2, h3, h4⟩ := h
  refine ⟨⟨Z, hT, h1, fun z hz => ?_⟩, h4⟩
  obtain ⟨i, hi, rfl⟩ := List.getElem_of_mem hz
  have := h3 i (by rw [hk, hT, List.length_map]; exact hi) hi
  rw [List.getD_eq_getElem?_getD, List.getElem?_eq_getElem hi] at this
  exact this
end

end Go.Proofs.YtheenlomlmbjaaaGreatDoor

namespace Go.Proofs.YtheenlomlmbjaaaGreatDoor
open Go.RowKit Go.Maps

def encI (x : Int) : List Value := [.int .i64 x]
theorem infoInt : (Tryz.prog.info? 3).map (fun i => (i.zero, i.size, i.bytes)) = some (some (.int .i64 0), 1, 8) := by kernel_rfl
theorem tyInt : ETy 23 3 1 8 encI :=
  ⟨Tryz.underlying23, ⟨_, infoInt, rfl⟩, by decide, by decide, fun _ => rfl, fun x u hu => by simp [encI] at hu; rcases hu with rfl; rfl⟩
abbrev Pt := Int × Int × Bytes
def encPt (x : Pt) : List Value := [.int .i64 x.1, .int .i64 x.2.1, .string (bs x.2.2)]
theorem infoPt : (Tryz.prog.info? 139).map (fun i => (i.zero, i.size, i.bytes)) = some (some (.agg #[.int .i64 0, .int .i64 0, .string (bs [])]), 3, 32) := by kernel_rfl
theorem tyPt : ETy 89 139 3 32 encPt :=
  ⟨Tryz.underlying89, ⟨_, infoPt, rfl⟩, by decide, by decide, fun _ => rfl, fun x u hu => by simp [encPt] at hu; rcases hu with rfl | rfl | rfl <;> rfl⟩
theorem RowG.out {α : Type} {k : Nat} {enc : α → List Value} {w w' : World} {v : Value} {l : List α} {F : Nat → Prop} (h : RowG k enc w v l) (ho : Out F w w') (hf : ∀ b o s n c, v = .slice (some ⟨b, o, s⟩) n c → ¬ F b) : RowG k enc w' v l := by
  obtain ⟨a, cap, hv, h1, h2, h3, h4⟩ := h
  refine ⟨a, cap, hv, h1, h2, h3, fun hx => ?_⟩
  obtain ⟨b, off, ha, hlt, hc⟩ := h4 hx
  have hF := hf b off none _ _ (by rw [hv, ha])
  exact ⟨b, off, ha, Nat.lt_of_lt_of_le hlt ho.size, fun j u hj => ho.cellE (hc j u hj) hF⟩
theorem snoc_take {α : Type} (l : List α) (d : α) {k : Nat} (h : k < l.length) : l.take (k + 1) = l.take k ++ [l.getD k d] := by
  rw [List.take_add_one, List.getElem?_eq_getElem h, List.getD_eq_getElem?_getD, List.getElem?_eq_getElem h]
  rfl

theorem cell_alloc_ne {w : World} {o : Obj} {p : Addr} {v : Value} (h : w.cell? p = some v) : (w.alloc o).cell? p = some v := (World.cell?_of_block (w := w) (Below.heap_alloc w o p.block (World.block_lt_of_cell? w _ h))).trans h
theorem heap_old {w : World} {o x : Obj} {k : Nat} (h : w.heap[k]? = some x) : (w.alloc o).heap[k]? = some x := (Below.heap_alloc w o k (lt_of_heap h)).trans h
theorem heap2 (w : World) (o1 o2 : Obj) : ((w.alloc o1).alloc o2).heap[w.heap.size]? = some o1 ∧ ((w.alloc o1).alloc o2).heap[w.heap.size + 1]? = some o2 :=
  ⟨heap_old (heap_alloc_new ..), by have := heap_alloc_new (w.alloc o1) o2; simpa using this⟩
theorem heap3 (w : World) (o1 o2 o3 : Obj) : (((w.alloc o1).alloc o2).alloc o3).heap[w.heap.size]? = some o1 ∧ (((w.alloc o1).alloc o2).alloc o3).heap[w.heap.size + 1]? = some o2 ∧ (((w.alloc o1).alloc o2).alloc o3).heap[w.heap.size + 2]? = some o3 ∧ (((w.alloc o1).alloc o2).alloc o3).heap.size = w.heap.size + 3 ∧ Below w.heap.size w (((w.alloc o1).alloc o2).alloc o3) :=
  ⟨heap_old (heap2 ..).1, heap_old (heap2 ..).2, by have := heap_alloc_new ((w.alloc o1).alloc o2) o3; simpa using this, by simp, (((Below.refl _ _).alloc (Nat.le_refl _) _).alloc (by simp) _).alloc (by simp; omega) _⟩
set_option maxRecDepth 100000 in
theorem dayOf_any (t : Int) (w : World) (h0 : 0 ≤ t) (h1 : t < 100000) : Calls Tryz.prog 117 #[.int .i64 t] w fun e w' => e = .returned (.int .i64 (t / 100)) ∧ w = w' := by
  go_enter Tryz.func117, Tryz.ntmps117
  go_wp2_with fail
  go_ret
  exact ⟨rfl, rfl⟩
set_option maxRecDepth 100000 in
theorem may_any (w : World) : Calls Tryz.prog 53 #[.agg #[.int .i64 0, .int .i64 1099511627776]] w fun e w' => e = .returned (.bool true) ∧ Below w.heap.size w w' := by
  go_enter Tryz.func53, Tryz.ntmps53
  go_wp2_with fail
  go_ret
  exact ⟨rfl, (Below.refl _ _).alloc (Nat.le_refl _) _⟩

end Go.Proofs.YtheenlomlmbjaaaGreatDoor
