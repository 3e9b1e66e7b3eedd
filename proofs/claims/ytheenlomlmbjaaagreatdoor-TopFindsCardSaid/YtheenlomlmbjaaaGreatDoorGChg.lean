/-
  engine.change: what it did.
-/
import Derived.Test.YtheenlomlmbjaaaGreatDoorGManE
import Derived.Test.YtheenlomlmbjaaaGreatDoorGEncL
set_option linter.unusedSimpArgs false
set_option linter.unusedVariables false
namespace Go.Proofs.YtheenlomlmbjaaaGreatDoor
open Go.RowKit Go.Maps

abbrev FnV := Nat × Array Value
def encFn (x : FnV) : List Value := [.func (.func x.1) #[] x.2]
theorem infoFn : (Tryz.prog.info? 1).map (fun i => (i.zero, i.size, i.bytes)) = some (some .nilFunc, 1, 8) := by kernel_rfl
theorem tyFn : ETy 236 1 1 8 encFn :=
  ⟨Tryz.underlying236, ⟨_, infoFn, rfl⟩, by decide, by decide, fun _ => rfl, fun x u hu => by simp [encFn] at hu; rcases hu with rfl; rfl⟩
structure ChP (C S : Nat) (v : Value) (U : List FnV) (w : World) : Prop where
  c : w.heap[C]? = some (.cells #[.pointer (some ⟨S, 0, none⟩), .int .i64 0, v] 238 (0, 0))
  u : OwnR 1 1 encFn w (C + 1) v U
  n : U.length ≤ 1000
def chF (C : Nat) (v : Value) : Bl := fun k => k = C ∨ v.ownBlock = some k
section
variable {C S : Nat} {v : Value} {U : List FnV} {w w' : World}
theorem ChP.lt (h : ChP C S v U w) : C < w.heap.size := lt_of_heap h.c
theorem ChP.stay (h : ChP C S v U w) (hk : ∀ k, chF C v k → w'.heap[k]? = w.heap[k]?) : ChP C S v U w' :=
  ⟨(hk C (.inl rfl)).trans h.c, h.u.stay (fun b e => hk b (.inr e)), h.n⟩
theorem ChP.fLt (h : ChP C S v U w) {k : Nat} (hk : chF C v k) : C ≤ k ∧ k < w.heap.size := by
  rcases hk with rfl | hk
  · exact ⟨Nat.le_refl _, h.lt⟩
  · have := World.ownsRow.lt h.u k hk
    exact ⟨by omega, this.2⟩
theorem ChP.below (h : ChP C S v U w) (hb : Below w.heap.size w w') : ChP C S v U w' := h.stay fun k hk => hb.block k (h.fLt hk).2
theorem ChP.out {G : Bl} (h : ChP C S v U w) (ho : Out G w w') (ha : Apart (chF C v) G) : ChP C S v U w' := h.stay fun k hk => ho.block k (h.fLt hk).2 (ha k hk)
end
theorem app1n {α : Type} {st t k bytes : Nat} {enc : α → List Value} (E : ETy st t k bytes enc) (w : World) {ops : Array Oper} {rest : List Oper} {o : Oper} {a : Act} {Q : Exit → Act → World → Prop} (hgd : o.guard = none) (s x : Operand)
    (ho : o.op = .call { callee := .builtin .append, args := #[s, x], argTypes := #[st, st] })
    (base : Nat) (v : Value) (l : List α) (y : α) (g : Nat) (hs : a.eval s = v) (hx : a.eval x = .slice (some ⟨g, 0, none⟩) 1 1)
    (cs : Array Value) (hcs : cs.toList = enc y) (hnew : w.heap[g]? = some (.cells cs t (0, 0))) (hown : OwnR t k enc w base v l) (hbase : base ≤ w.heap.size) (hlen : l.length ≤ 1000000000)
    (h : ∀ g' cap w', OwnR t k enc w' base (.slice (some ⟨g', 0, none⟩) (l.length + 1) cap) (l ++ [y]) → w.grownBy w' v.ownBlock → (v.ownBlock = some g' ∨ w.heap.size ≤ g') → wpList Tryz.prog ops Q rest (a.put o.dst (.slice (some ⟨g', 0, none⟩) (l.length + 1) cap)) w') :
    wpList Tryz.prog ops Q (o :: rest) a w := by
  obtain ⟨z, hz, hzk⟩ := E.info
  obtain ⟨i0, hi, hz0, hz1, hz2⟩ := info_parts hz
  have hb : (l.length + 1) * bytes ≤ 1000000001 * 100 := Nat.mul_le_mul (by omega) E.small
  refine wpList_append_lies w hgd s x st ho base t i0 z k bytes E.und hi hz0 hz1 hz2 hzk E.pos v l.length _ hs hown
    ⟨g, 0, none⟩ 1 1 (enc y) hx (by rw [E.len]; omega) (by rw [← hcs]; exact World.news_of_block hnew) (E.one y) (by omega) (by simp only [maxLen]; omega) (by omega) hbase _ rfl ?_
  intro g' cap w' h1 h2 h3 _
  refine h g' cap w' ?_ h2 (h3.imp id (fun e => by omega))
  unfold OwnR
  simpa using h1
def DidA (C S : Nat) (v : Value) (n : Nat) (w : World) (e : Ending) (w' : World) : Prop := e = .returned (.tuple #[]) ∧ ∃ v' U', ChP C S v' U' w' ∧ U'.length = n + 1 ∧ (∀ k, chF C v' k → chF C v k ∨ w.heap.size ≤ k) ∧ Out (chF C v) w w'
set_option maxRecDepth 100000 in
set_option maxHeartbeats 2000000 in
theorem did_any (C S : Nat) (v : Value) (U : List FnV) (f : Nat) (cs : Array Value) (w : World) (h : ChP C S v U w) (hn : U.length < 1000) :
    Calls Tryz.prog 121 #[.pointer (some ⟨C, 0, none⟩), .int .i64 0, .func (.func f) #[] cs] w (DidA C S v U.length w) := by
  have HC := Lib.hid h
  obtain ⟨a, m, c, rfl⟩ := h.u.isSl
  have f1 := Lib.frozen_of_heap h.c 1
  have c1 : w.cell? ⟨C, 1, none⟩ = some (.int .i64 0) := by rw [cell_of_row w _ _ _ _ _ h.c]; rfl
  have hCl := h.lt
  have hC1 : (w.setCell ⟨C, 1, none⟩ (.int .i64 0)).heap[C]? = some (.cells #[.pointer (some ⟨S, 0, none⟩), .int .i64 0, .slice a m c] 238 (0, 0)) := by rw [heap_setC h.c]; rfl
  have hne : ∀ b, (Value.slice a m c).ownBlock = some b → b ≠ C := fun b e => by have := (World.ownsRow.lt h.u b e).1; omega
  have HP1 := Lib.hid (show ChP C S (.slice a m c) U (w.setCell ⟨C, 1, none⟩ (.int .i64 0)) from ⟨hC1, h.u.stay (fun b e => Below.heap_setCell _ _ _ b (hne b e)), h.n⟩)
  have HO1 := Lib.hid (show Out (chF C (.slice a m c)) w (w.setCell ⟨C, 1, none⟩ (.int .i64 0)) from (Out.setCell w ⟨C, 1, none⟩ (.int .i64 0)).mono fun k _ hk => .inl hk)
  have HNe := Lib.hid hne
  clear h hC1 hne
  go_enter Tryz.func121, Tryz.ntmps121
  go_upto_region 1 with (fail)
  generalize w.setCell ⟨C, 1, none⟩ (.int .i64 0) = w1 at *
  have c2 : w1.cell? ⟨C, 2, none⟩ = some (.slice a m c) := by rw [cell_of_row w1 _ _ _ _ _ HP1.out.c]; rfl
  have hsz := HP1.out.lt
  clear c1 f1
  have HEnd := Lib.hid (fun (g' cap' : Nat) (w2 : World) (hown2 : OwnR 1 1 encFn w2 (C + 1) (.slice (some ⟨g', 0, none⟩) (U.length + 1) cap') (U ++ [(f, cs)])) (hgr2 : (w1.alloc (.cells #[.func (.func f) #[] cs] 1)).grownBy w2 (Value.slice a m c).ownBlock) (hnew : (Value.slice a m c).ownBlock = some g' ∨ (w1.alloc (.cells #[.func (.func f) #[] cs] 1)).heap.size ≤ g') =>
    show w2.heap[C]? = some (.cells #[.pointer (some ⟨S, 0, none⟩), .int .i64 0, .slice a m c] 238 (0, 0)) ∧ DidA C S (.slice a m c) U.length w (.returned (.tuple #[])) (w2.setCell ⟨C, 2, none⟩ (.slice (some ⟨g', 0, none⟩) (U.length + 1) cap')) from by
      have hc2 := (hgr2.block C (by have := HP1.out.lt; simp; omega) (fun e => HNe.out C e.symm rfl)).trans (heap_old HP1.out.c)
      have hgC : g' ≠ C := by
        have := (World.ownsRow.lt hown2 g' rfl).1; omega
      have hsz1 := HO1.out.size
      refine ⟨hc2, rfl, _, _, ⟨by rw [heap_setC hc2]; rfl, hown2.stay (fun b e => Below.heap_setCell _ _ _ b (by
        have e2 : g' = b := Option.some.inj e
        rw [← e2]; exact hgC)), by simp; omega⟩, by simp, fun k hk => ?_, ?_⟩
      · rcases hk with rfl | hk
        · exact .inl (.inl rfl)
        · have e2 : g' = k := Option.some.inj hk
          subst e2
          rcases hnew with h9 | h9
          · exact .inl (.inr h9)
          · exact .inr (by simp at h9; omega)
      · refine ((HO1.out.thenB ((Below.refl w1.heap.size w1).alloc (Nat.le_refl _) _)).trans (Out.grown hgr2) (fun k hk e => .inr ?_)).trans (Out.setCell w2 ⟨C, 2, none⟩ _) (fun k hk e => .inl e)
        first | exact e | exact e.symm)
  go_wp2_with (at_builtin; refine app1n tyFn _ rfl (.tmp 18) (.tmp 20) rfl (C + 1) _ U (f, cs) w1.heap.size rfl (by rfl) #[.func (.func f) #[] cs] rfl (heap_alloc_new ..) (HP1.out.u.below ((Below.refl _ _).alloc (Nat.le_refl _) _)) (by simp; omega) (by omega) ?_; intro g' cap' w2 hown2 hgr2 hnew2; have HE2 := Lib.hid (HEnd.out g' cap' w2 hown2 hgr2 hnew2); have d2 : w2.cell? ⟨C, 2, none⟩ = some (.slice a m c) := (by rw [cell_of_row w2 _ _ _ _ _ HE2.out.1]; rfl); have g2 := Lib.frozen_of_heap HE2.out.1 2; clear hown2 hgr2 hnew2)
  go_end0
  exact HE2.out.2

end Go.Proofs.YtheenlomlmbjaaaGreatDoor
