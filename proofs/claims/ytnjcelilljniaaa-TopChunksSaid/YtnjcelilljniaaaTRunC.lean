/-
  runs.fences: the blocks of what runs.Encode says.
-/
import Derived.Test.YtnjcelilljniaaaTRunB
namespace Go.Proofs.Ytnjcelilljniaaa
open Go.RowKit

/-- A fence: its range, how many rows, its bytes. -/
abbrev Fnc := Nat × Nat × Nat × Bytes
def encF (x : Fnc) : List Value := [.int .i64 x.1, .int .i64 x.2.1, .int .i64 x.2.2.1, .string (bs x.2.2.2)]
def encI (x : Nat) : List Value := [.int .i64 x]
theorem infoFnc : (Try.prog.info? 119).map (fun i => (i.zero, i.size, i.bytes)) = some (some (.agg #[.int .i64 0, .int .i64 0, .int .i64 0, .string ⟨#[]⟩]), 4, 40) := by kernel_rfl
theorem infoInt : (Try.prog.info? 3).map (fun i => (i.zero, i.size, i.bytes)) = some (some (.int .i64 0), 1, 8) := by kernel_rfl

/-- The j-th fence; b: with its bytes, or without. -/
noncomputable def fncJ (n st : Nat) (v : Int) (b : Bool) (j : Nat) : Fnc := (16 * j * st, 16 * j * st + (chN n j - 1) * st + 1, chN n j, if b then blkL (chN n j) st v else [])
noncomputable def szJ (n st : Nat) (v : Int) (j : Nat) : Nat := (blkL (chN n j) st v).length
noncomputable def fncL (n st : Nat) (v : Int) (b : Bool) (k : Nat) : List Fnc := (List.range k).map (fncJ n st v b)
noncomputable def szL (n st : Nat) (v : Int) (k : Nat) : List Nat := (List.range k).map (szJ n st v)
theorem fncL_len (n st : Nat) (v : Int) (b : Bool) (k : Nat) : (fncL n st v b k).length = k := by simp [fncL]
theorem szL_len (n st : Nat) (v : Int) (k : Nat) : (szL n st v k).length = k := by simp [szL]
theorem fncL_succ (n st : Nat) (v : Int) (b : Bool) (k : Nat) : fncL n st v b (k + 1) = fncL n st v b k ++ [fncJ n st v b k] := by simp [fncL, List.range_succ]
theorem szL_succ (n st : Nat) (v : Int) (k : Nat) : szL n st v (k + 1) = szL n st v k ++ [szJ n st v k] := by simp [szL, List.range_succ]

/-- 'l = append(l, x)': one fence. -/
theorem app_fnc (w : World) {ops : Array Oper} {rest : List Oper} {o : Oper} {a : Act} {Q : Exit → Act → World → Prop} (hgd : o.guard = none) (s x : Operand)
    (ho : o.op = .call { callee := .builtin .append, args := #[s, x], argTypes := #[115, 115] })
    (base : Nat) (v : Value) (l : List Fnc) (y : Fnc) (g : Nat) (hs : a.eval s = v) (hx : a.eval x = .slice (some ⟨g, 0, none⟩) 1 1)
    (hnew : w.heap[g]? = some (.cells #[.int .i64 y.1, .int .i64 y.2.1, .int .i64 y.2.2.1, .string (bs y.2.2.2)] 119 (0, 0))) (hown : OwnR 119 4 encF w base v l) (hbase : base ≤ w.heap.size) (hlen : l.length ≤ 1000000000)
    (h : ∀ g' cap w', OwnR 119 4 encF w' base (.slice (some ⟨g', 0, none⟩) (l.length + 1) cap) (l ++ [y]) → w.grownBy w' v.ownBlock → (v.ownBlock = some g' ∨ g' = w.heap.size) → g' < w'.heap.size → wpList Try.prog ops Q rest (a.put o.dst (.slice (some ⟨g', 0, none⟩) (l.length + 1) cap)) w') :
    wpList Try.prog ops Q (o :: rest) a w := by
  obtain ⟨i0, hi, hz0, hz1, hz2⟩ := info_parts infoFnc
  refine wpList_append_lies w hgd s x 115 ho base 119 i0 _ 4 40 Try.underlying115 hi hz0 hz1 hz2 rfl (by decide) v l.length _ hs hown
    ⟨g, 0, none⟩ 1 1 [.int .i64 y.1, .int .i64 y.2.1, .int .i64 y.2.2.1, .string (bs y.2.2.2)] hx rfl (World.news_of_block hnew) ?_ (by omega) (by simp only [maxLen]; omega) (by omega) hbase _ rfl ?_
  · intro u hu
    simp at hu; rcases hu with rfl | rfl | rfl | rfl <;> rfl
  · intro g' cap w' h1 h2 h3 h4
    refine h g' cap w' ?_ h2 h3 h4
    unfold OwnR
    simpa [encF] using h1
theorem app_int (w : World) {ops : Array Oper} {rest : List Oper} {o : Oper} {a : Act} {Q : Exit → Act → World → Prop} (hgd : o.guard = none) (s x : Operand)
    (ho : o.op = .call { callee := .builtin .append, args := #[s, x], argTypes := #[137, 137] })
    (base : Nat) (v : Value) (l : List Nat) (y : Nat) (g : Nat) (hs : a.eval s = v) (hx : a.eval x = .slice (some ⟨g, 0, none⟩) 1 1)
    (hnew : w.heap[g]? = some (.cells #[.int .i64 y] 3 (0, 0))) (hown : OwnR 3 1 encI w base v l) (hbase : base ≤ w.heap.size) (hlen : l.length ≤ 1000000000)
    (h : ∀ g' cap w', OwnR 3 1 encI w' base (.slice (some ⟨g', 0, none⟩) (l.length + 1) cap) (l ++ [y]) → w.grownBy w' v.ownBlock → (v.ownBlock = some g' ∨ g' = w.heap.size) → g' < w'.heap.size → wpList Try.prog ops Q rest (a.put o.dst (.slice (some ⟨g', 0, none⟩) (l.length + 1) cap)) w') :
    wpList Try.prog ops Q (o :: rest) a w := by
  obtain ⟨i0, hi, hz0, hz1, hz2⟩ := info_parts infoInt
  refine wpList_append_lies w hgd s x 137 ho base 3 i0 _ 1 8 Try.underlying137 hi hz0 hz1 hz2 rfl (by decide) v l.length _ hs hown
    ⟨g, 0, none⟩ 1 1 [.int .i64 y] hx rfl (World.news_of_block hnew) ?_ (by omega) (by simp only [maxLen]; omega) (by omega) hbase _ rfl ?_
  · intro u hu
    simp at hu; rcases hu with rfl; rfl
  · intro g' cap w' h1 h2 h3 h4
    refine h g' cap w' ?_ h2 h3 h4
    unfold OwnR
    simpa [encI] using h1

/-! Where a number stands in the head. -/
theorem range_split {m k : Nat} (h : k < m) : ∃ d, m = k + 1 + d ∧ List.range m = List.range k ++ (k :: (List.range d).map (k + 1 + ·)) := by
  obtain ⟨d, hd⟩ : ∃ d, m = k + 1 + d := ⟨m - k - 1, by omega⟩
  refine ⟨d, hd, ?_⟩
  rw [hd, List.range_add, List.range_succ, List.append_assoc]
  rfl
theorem head_parts {n st k : Nat} {v : Int} (h : k < nBlk n) : ∃ r, runL n st v = headT n st v (List.range k) ++ (uintL (16 * k * st) ++ (uintL ((chN n k - 1) * st) ++ (uintL (szJ n st v k) ++ r))) := by
  obtain ⟨d, hd, e⟩ := range_split h
  have hh : headT n st v (List.range (nBlk n)) = headT n st v (List.range k) ++ (headB n st v k ++ ((List.range d).map (k + 1 + ·)).flatMap (headB n st v)) := by
    unfold headT
    rw [e, List.flatMap_append, List.flatMap_cons, List.append_assoc]
  refine ⟨((List.range d).map (k + 1 + ·)).flatMap (headB n st v) ++ bodyT n st v (List.range (nBlk n)), ?_⟩
  unfold runL
  rw [hh]
  unfold headB szJ
  simp only [List.append_assoc]
theorem head_len {n st k : Nat} {v : Int} : (headT n st v (List.range (k + 1))).length = (headT n st v (List.range k)).length + (uintL (16 * k * st)).length + (uintL ((chN n k - 1) * st)).length + (uintL (szJ n st v k)).length := by
  rw [List.range_succ, headT_snoc]
  unfold headB szJ
  simp only [List.length_append]
  omega
theorem body_len {n st k : Nat} {v : Int} : (bodyT n st v (List.range (k + 1))).length = (bodyT n st v (List.range k)).length + szJ n st v k := by
  rw [List.range_succ, bodyT_snoc, List.length_append]; rfl
theorem body_parts {n st k : Nat} {v : Int} (h : k < nBlk n) : ∃ r, runL n st v = (headT n st v (List.range (nBlk n)) ++ bodyT n st v (List.range k)) ++ (blkL (chN n k) st v ++ r) := by
  obtain ⟨d, hd, e⟩ := range_split h
  have hh : bodyT n st v (List.range (nBlk n)) = bodyT n st v (List.range k) ++ (blkL (chN n k) st v ++ ((List.range d).map (k + 1 + ·)).flatMap fun j => blkL (chN n j) st v) := by
    unfold bodyT
    rw [e, List.flatMap_append, List.flatMap_cons]
  refine ⟨((List.range d).map (k + 1 + ·)).flatMap fun j => blkL (chN n j) st v, ?_⟩
  unfold runL
  rw [hh, ← List.append_assoc]

/-- The end of the block ahead. -/
def lastN (n st k : Nat) : Nat := if k = 0 then 0 else 16 * (k - 1) * st + (chN n (k - 1) - 1) * st
theorem lastN_succ (n st k : Nat) : lastN n st (k + 1) = 16 * k * st + (chN n k - 1) * st := by unfold lastN; rw [if_neg (by omega)]; rfl
theorem lastN_le {n st k : Nat} : lastN n st k ≤ 16 * k * st := by
  unfold lastN
  by_cases h : k = 0
  · subst h; simp
  · rw [if_neg h, ← Nat.add_mul]
    exact Nat.mul_le_mul_right st (by have := chN_le n (k - 1); omega)

/-- What a round of fences' first loop knows. -/
structure FcI (p n st k : Nat) (v : Int) (S : Bytes) (lv sv : Value) (w w' : World) : Prop where
  rd : RdB w' p S (headT n st v (List.range k)).length
  ol : OwnR 119 4 encF w' (p + 1) lv (fncL n st v false k)
  os : OwnR 3 1 encI w' (p + 1) sv (szL n st v k)
  ap : sv.ownBlock = none ∨ sv.ownBlock ≠ lv.ownBlock
  be : Below p w w'
  sz : p + 1 ≤ w'.heap.size
theorem FcI.start (w : World) (n st : Nat) (v : Int) (S : Bytes) (hr : RdB (w.alloc (.cells #[.string (bs S), .int .i64 0, .bool true] 140)) w.heap.size S (uintL n).length → True) (w' : World)
    (h : RdB w' w.heap.size S (uintL n).length) (hg : (w.alloc (.cells #[.string (bs S), .int .i64 0, .bool true] 140)).grownBy w' (some w.heap.size)) : FcI w.heap.size n st 0 v S (.slice none 0 0) (.slice none 0 0) w w' :=
  ⟨by rw [List.range_zero, headT_nil]; exact h, OwnR.nil _ _, OwnR.nil _ _, .inl rfl, ((Below.refl w.heap.size w).alloc (Nat.le_refl _) _).grown hg (by simp) (fun j hj => by cases hj; exact Nat.le_refl _), by have := hg.size; simpa using this⟩
theorem FcI.row {p n st k at_ : Nat} {v : Int} {S : Bytes} {lv sv : Value} {w w' w'' : World} (h : FcI p n st k v S lv sv w w') (hr : RdB w'' p S at_) (hg : w'.grownBy w'' (some p)) :
    OwnR 119 4 encF w'' (p + 1) lv (fncL n st v false k) ∧ OwnR 3 1 encI w'' (p + 1) sv (szL n st v k) ∧ Below p w w'' ∧ p + 1 ≤ w''.heap.size :=
  ⟨World.ownsRow.kept h.ol hg (.inr fun e => by have := (World.ownsRow.lt h.ol _ e).1; omega), World.ownsRow.kept h.os hg (.inr fun e => by have := (World.ownsRow.lt h.os _ e).1; omega),
    h.be.grown hg (by have := h.sz; omega) (fun j hj => by cases hj; exact Nat.le_refl _), Nat.le_trans h.sz hg.size⟩
/-- Both rows grow. -/
theorem FcI.next {p n st k at_ g1 c1 g2 c2 : Nat} {v : Int} {S : Bytes} {lv sv : Value} {w w3 w4 w5 : World} {o1 o2 : Obj} (hr : RdB w3 p S at_) (ol : OwnR 119 4 encF w3 (p + 1) lv (fncL n st v false k)) (os : OwnR 3 1 encI w3 (p + 1) sv (szL n st v k))
    (ap : sv.ownBlock = none ∨ sv.ownBlock ≠ lv.ownBlock) (be : Below p w w3) (sz : p + 1 ≤ w3.heap.size)
    (ol4 : OwnR 119 4 encF w4 (p + 1) (.slice (some ⟨g1, 0, none⟩) (k + 1) c1) (fncL n st v false k ++ [fncJ n st v false k])) (hg4 : (w3.alloc o1).grownBy w4 lv.ownBlock) (hl4 : lv.ownBlock = some g1 ∨ g1 = w3.heap.size + 1) (hz4 : g1 < w4.heap.size) :
    OwnR 3 1 encI w4 (p + 1) sv (szL n st v k) ∧ (OwnR 3 1 encI w5 (p + 1) (.slice (some ⟨g2, 0, none⟩) (k + 1) c2) (szL n st v k ++ [szJ n st v k]) → (w4.alloc o2).grownBy w5 sv.ownBlock → (sv.ownBlock = some g2 ∨ g2 = w4.heap.size + 1) →
      at_ = (headT n st v (List.range (k + 1))).length → FcI p n st (k + 1) v S (.slice (some ⟨g1, 0, none⟩) (k + 1) c1) (.slice (some ⟨g2, 0, none⟩) (k + 1) c2) w w5) := by
  have hb3 : Below w3.heap.size w3 (w3.alloc o1) := (Below.refl _ _).alloc (Nat.le_refl _) _
  have os4 : OwnR 3 1 encI w4 (p + 1) sv (szL n st v k) := World.ownsRow.kept (os.below hb3) hg4 ap
  have hlvp : ∀ j, lv.ownBlock = some j → p + 1 ≤ j ∧ j < w3.heap.size := fun j hj => World.ownsRow.lt ol j hj
  have hsvp : ∀ j, sv.ownBlock = some j → p + 1 ≤ j ∧ j < w3.heap.size := fun j hj => World.ownsRow.lt os j hj
  have hr4 : RdB w4 p S at_ := RdB.kept (show RdB (w3.alloc o1) p S at_ from (hb3.block p (by omega)).trans hr) hg4 (fun e => by have := (hlvp _ e.symm).1; omega)
  have be4 : Below p w w4 := (be.trans (hb3.mono (by omega))).grown hg4 (by simp; omega) (fun j hj => by have := (hlvp j hj).1; omega)
  have hs4 : w3.heap.size + 1 ≤ w4.heap.size := by have := hg4.size; simpa using this
  refine ⟨os4, fun os5 hg5 hl5 hat => ?_⟩
  have hb4 : Below w4.heap.size w4 (w4.alloc o2) := (Below.refl _ _).alloc (Nat.le_refl _) _
  have hgsv : ∀ j, sv.ownBlock = some j → j ≠ g1 := fun j hj e => by
    subst e
    rcases hl4 with e | e
    · rcases ap with h | h
      · rw [hj] at h; cases h
      · exact h (by rw [hj, e])
    · have := (hsvp _ hj).2; omega
  have ol5 : OwnR 119 4 encF w5 (p + 1) (.slice (some ⟨g1, 0, none⟩) (k + 1) c1) (fncL n st v false k ++ [fncJ n st v false k]) :=
    World.ownsRow.kept (ol4.below hb4) hg5 (.inr fun e => hgsv _ e.symm rfl)
  refine ⟨?_, by rw [fncL_succ]; exact ol5, by rw [szL_succ]; exact os5, .inr fun e => ?_, ?_, ?_⟩
  · rw [← hat]
    exact RdB.kept (show RdB (w4.alloc o2) p S at_ from (hb4.block p (by omega)).trans hr4) hg5 (fun e => by have := (hsvp _ e.symm).1; omega)
  · have e' : g2 = g1 := by simpa [Value.ownBlock] using e
    rcases hl5 with h | h
    · exact hgsv _ h e'
    · omega
  · exact (be4.trans (hb4.mono (by omega))).grown hg5 (by simp; omega) (fun j hj => by have := (hsvp j hj).1; omega)
  · have := hg5.size; simp at this; omega

end Go.Proofs.Ytnjcelilljniaaa
