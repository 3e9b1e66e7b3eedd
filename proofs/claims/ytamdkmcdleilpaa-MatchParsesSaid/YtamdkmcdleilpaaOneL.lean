/-
  what match.one's walk wants.
-/
import Derived.Test.YtamdkmcdleilpaaMQuoted
import Derived.Test.YtamdkmcdleilpaaParse
namespace Go.Proofs.Ytamdkmcdleilpaa
open Go.RowKit

/-! ### CutSuffix -/
def isSufB (t s : Bytes) : Bool := decide (t.length ≤ s.length) && (s.drop (s.length - t.length) == t)
def leftE (t s : Bytes) : Bytes := if isSufB t s then s.take (s.length - t.length) else s

set_option maxRecDepth 100000 in
theorem hasSufL_any (s p : Bytes) (w : World) (hs : s.length ≤ 1000000000000) (hp : p.length ≤ 1000000000000) :
    Calls Try.prog 100 #[.string (bs s), .string (bs p)] w fun e w' => e = .returned (.bool (isSufB p s)) ∧ w = w' := by
  by_cases h : p.length ≤ s.length
  · have HE := Lib.hid (show isSufB p s = (s.drop (s.length - p.length) == p) by unfold isSufB; rw [decide_eq_true h]; rfl)
    have hfr : ∀ w, (Instr.sliceAt 9 (.string (bs s)) (some (.int .i64 ((s.length : Int) - (p.length : Int)))) none none).run Try.prog w = .ok (.string (bs (s.drop (s.length - p.length)))) w := fun w => by
      have := sfrom_run s (s.length - p.length) (by omega) w
      rwa [show ((s.length - p.length : Nat) : Int) = (s.length : Int) - (p.length : Int) by omega] at this
    rw [HE.out]
    generalize s.drop (s.length - p.length) = x at *
    go_enter Try.func100, Try.ntmps100
    go_wp2_with fail
    go_ret
    exact ⟨rfl, rfl⟩
  · have HE := Lib.hid (show isSufB p s = false by unfold isSufB; rw [decide_eq_false h]; rfl)
    rw [HE.out]
    go_enter Try.func100, Try.ntmps100
    go_wp2_with fail
    go_ret
    exact ⟨rfl, rfl⟩
set_option maxRecDepth 100000 in
theorem cutSufL_any (s p : Bytes) (w : World) (hs : s.length ≤ 1000000000000) (hp : p.length ≤ 1000000000000) :
    Calls Try.prog 93 #[.string (bs s), .string (bs p)] w fun e w' => e = .returned (.tuple #[.string (bs (leftE p s)), .bool (isSufB p s)]) ∧ w = w' := by
  have HC := Lib.hid (hasSufL_any s p w hs hp)
  cases hb : isSufB p s with
  | false =>
    rw [hb] at HC
    have HL := Lib.hid (show leftE p s = s by unfold leftE; rw [hb]; rfl)
    rw [HL.out]
    go_enter Try.func93, Try.ntmps93
    go_wp2_with fail
    refine HC.out.mono ?_
    rintro e w' ⟨rfl, rfl⟩
    go_wp2_with fail
    go_ret2
    exact ⟨rfl, rfl⟩
  | true =>
    rw [hb] at HC
    have hle : p.length ≤ s.length := by
      unfold isSufB at hb
      simp only [Bool.and_eq_true, decide_eq_true_eq] at hb
      exact hb.1
    have HL := Lib.hid (show leftE p s = s.take (s.length - p.length) by unfold leftE; rw [hb]; rfl)
    rw [HL.out]
    have hfr : ∀ w, (Instr.sliceAt 9 (.string (bs s)) none (some (.int .i64 ((s.length : Int) - (p.length : Int)))) none).run Try.prog w = .ok (.string (bs (s.take (s.length - p.length)))) w := fun w => by
      have := sto_run s (s.length - p.length) (by omega) w
      rwa [show ((s.length - p.length : Nat) : Int) = (s.length : Int) - (p.length : Int) by omega] at this
    clear hb
    generalize s.take (s.length - p.length) = x at *
    go_enter Try.func93, Try.ntmps93
    go_wp2_with fail
    refine HC.out.mono ?_
    rintro e w' ⟨rfl, rfl⟩
    go_wp2_with fail
    go_ret2
    exact ⟨rfl, rfl⟩
set_option maxRecDepth 100000 in
theorem cutSuf_any (s p : Bytes) (w : World) (hs : s.length ≤ 1000000000000) (hp : p.length ≤ 1000000000000) :
    Calls Try.prog 84 #[.string (bs s), .string (bs p)] w fun e w' => e = .returned (.tuple #[.string (bs (leftE p s)), .bool (isSufB p s)]) ∧ w = w' := by
  have HC := Lib.hid (cutSufL_any s p w hs hp)
  generalize leftE p s = x at *
  generalize isSufB p s = b at *
  go_enter Try.func84, Try.ntmps84
  go_wp2_with fail
  refine HC.out.mono ?_
  rintro e w' ⟨rfl, rfl⟩
  go_wp2_with fail
  go_ret2
  exact ⟨rfl, rfl⟩

/-! ### the kinds, by their numbers -/
def signV (i : Nat) : Bytes := if i = 0 then [61] else if i = 1 then [33, 61] else if i = 2 then [94, 61] else [64, 61]
def fnV (i : Nat) : Nat := if i = 0 then 70 else if i = 1 then 71 else if i = 2 then 72 else 74
theorem kindAt {i : Nat} (h : i < 4) (w : World) : (Instr.index 59 kindsV (.int .i64 i)).run Try.prog w = .ok (.agg #[.string (bs (signV i)), .func (.func (fnV i)) #[] #[]]) w := by
  rcases (show i = 0 ∨ i = 1 ∨ i = 2 ∨ i = 3 by omega) with rfl | rfl | rfl | rfl
  · exact kindAt0 w
  · exact kindAt1 w
  · exact kindAt2 w
  · exact kindAt3 w
/-- The head as the kinds below i have it. -/
def headI (nm : Bytes) (i : Nat) : Int × Bytes := if (headM nm).1 < i then headM nm else (0, nm)
theorem headI_0 (nm : Bytes) : headI nm 0 = (0, nm) := by
  unfold headI; rcases headM_kind nm with e | e | e | e <;> rw [e] <;> rfl
theorem headI_4 (nm : Bytes) : headI nm 4 = headM nm := by
  unfold headI; rcases headM_kind nm with e | e | e | e <;> rw [e] <;> rfl
theorem headM_0 {nm : Bytes} (h : (headM nm).1 = 0) : headM nm = (0, nm) := by
  unfold headM at *
  split at h
  · simp at h
  · rename_i h1
    split at h
    · simp at h
    · rename_i h2
      split at h
      · simp at h
      · rename_i h3; simp [h1, h2, h3]
def hitI (nm : Bytes) (i : Nat) : Bool := decide ((headM nm).1 = i)
theorem headI_next (nm : Bytes) {i : Nat} (h0 : 0 < i) (h4 : i < 4) : headI nm (i + 1) = if hitI nm i then headM nm else headI nm i := by
  unfold headI hitI
  by_cases h : (headM nm).1 = i
  · rw [if_pos (by omega), decide_eq_true h, if_pos rfl]
  · rw [decide_eq_false h, if_neg Bool.false_ne_true]
    by_cases h' : (headM nm).1 < i
    · rw [if_pos (by omega), if_pos h']
    · rw [if_neg (by omega), if_neg h']
theorem headI_1 (nm : Bytes) : headI nm 1 = headI nm 0 := by
  rw [headI_0]
  unfold headI
  rcases headM_kind nm with e | e | e | e
  · rw [if_pos (by omega), headM_0 e]
  all_goals (rw [if_neg (by omega)])
theorem last_suf (nm : Bytes) (c : UInt8) : isSufB [c, 61] (nm ++ [61]) = decide (nm.getLast? = some c) ∧ (nm.getLast? = some c → leftE [c, 61] (nm ++ [61]) = nm.dropLast) := by
  cases hn : nm.reverse with
  | nil =>
    have : nm = [] := by simpa using hn
    subst this
    simp [isSufB]
  | cons d r =>
    have e : nm = r.reverse ++ [d] := by have := congrArg List.reverse hn; simpa using this
    rw [e]
    have h1 : isSufB [c, 61] (r.reverse ++ [d] ++ [61]) = (d == c) := by
      unfold isSufB
      have hl : (r.reverse ++ [d] ++ [61]).length - [c, 61].length = r.reverse.length := by simp
      rw [hl, List.append_assoc, List.drop_left]
      rw [decide_eq_true (by simp)]
      by_cases hd : d = c <;> simp [hd]
    refine ⟨by rw [h1]; by_cases hd : d = c <;> simp [hd], fun h => ?_⟩
    have hd : d = c := by simpa using h
    unfold leftE
    rw [h1, hd]
    simp
theorem suf_kind (nm : Bytes) {i : Nat} (h0 : 0 < i) (h4 : i < 4) : isSufB (signV i) (nm ++ [61]) = hitI nm i ∧ (hitI nm i = true → leftE (signV i) (nm ++ [61]) = (headM nm).2 ∧ (headM nm).1 = i) := by
  have h1 := last_suf nm 33
  have h2 := last_suf nm 94
  have h3 := last_suf nm 64
  rcases (show i = 1 ∨ i = 2 ∨ i = 3 by omega) with rfl | rfl | rfl
  · show isSufB [33, 61] (nm ++ [61]) = _ ∧ (_ → leftE [33, 61] (nm ++ [61]) = _ ∧ _)
    have hk : ((headM nm).1 = ((1 : Nat) : Int)) ↔ nm.getLast? = some 33 := by
      unfold headM
      by_cases a1 : nm.getLast? = some 33
      · simp [a1]
      · by_cases a2 : nm.getLast? = some 94
        · simp [a2]
        · by_cases a3 : nm.getLast? = some 64
          · simp [a3]
          · simp [a1, a2, a3]
    refine ⟨by rw [h1.1]; unfold hitI; rw [decide_eq_decide]; exact hk.symm, fun h => ?_⟩
    have h' := of_decide_eq_true h
    have g := hk.1 h'
    exact ⟨by rw [h1.2 g]; unfold headM; simp [g], h'⟩
  · show isSufB [94, 61] (nm ++ [61]) = _ ∧ (_ → leftE [94, 61] (nm ++ [61]) = _ ∧ _)
    have hk : ((headM nm).1 = ((2 : Nat) : Int)) ↔ nm.getLast? = some 94 := by
      unfold headM
      by_cases a1 : nm.getLast? = some 33
      · simp [a1]
      · by_cases a2 : nm.getLast? = some 94
        · simp [a2]
        · by_cases a3 : nm.getLast? = some 64
          · simp [a3]
          · simp [a1, a2, a3]
    refine ⟨by rw [h2.1]; unfold hitI; rw [decide_eq_decide]; exact hk.symm, fun h => ?_⟩
    have h' := of_decide_eq_true h
    have g := hk.1 h'
    exact ⟨by rw [h2.2 g]; unfold headM; simp [g], h'⟩
  · show isSufB [64, 61] (nm ++ [61]) = _ ∧ (_ → leftE [64, 61] (nm ++ [61]) = _ ∧ _)
    have hk : ((headM nm).1 = ((3 : Nat) : Int)) ↔ nm.getLast? = some 64 := by
      unfold headM
      by_cases a1 : nm.getLast? = some 33
      · simp [a1]
      · by_cases a2 : nm.getLast? = some 94
        · simp [a2]
        · by_cases a3 : nm.getLast? = some 64
          · simp [a3]
          · simp [a1, a2, a3]
    refine ⟨by rw [h3.1]; unfold hitI; rw [decide_eq_decide]; exact hk.symm, fun h => ?_⟩
    have h' := of_decide_eq_true h
    have g := hk.1 h'
    exact ⟨by rw [h3.2 g]; unfold headM; simp [g], h'⟩
theorem suf_0 (nm : Bytes) : isSufB (signV 0) (nm ++ [61]) = true := by
  show isSufB [61] (nm ++ [61]) = true
  unfold isSufB
  have hl : List.length (nm ++ [61]) - List.length ([61] : Bytes) = nm.length := by simp
  rw [decide_eq_true (by simp), hl, List.drop_left]
  simp

/-! ### the box of a matcher -/
def MB (w : World) (b : Nat) (k : Int) (n x : Bytes) (u : Value) : Prop := w.heap[b]? = some (.cells #[.int .i64 k, .string (bs n), .string (bs x), u] 27 (0, 0))
theorem MB.cells {w : World} {b : Nat} {k : Int} {n x : Bytes} {u : Value} (h : MB w b k n x u) : w.cell? ⟨b, 0, none⟩ = some (.int .i64 k) ∧ w.cell? ⟨b, 1, none⟩ = some (.string (bs n)) ∧ w.cell? ⟨b, 2, none⟩ = some (.string (bs x)) ∧ w.cell? ⟨b, 3, none⟩ = some u := by
  refine ⟨?_, ?_, ?_, ?_⟩ <;> rw [cell_of_row w b _ _ _ _ h] <;> rfl
theorem MB.frozen {w : World} {b : Nat} {k : Int} {n x : Bytes} {u : Value} (h : MB w b k n x u) : w.frozen? ⟨b, 0, none⟩ = false ∧ w.frozen? ⟨b, 1, none⟩ = false ∧ w.frozen? ⟨b, 2, none⟩ = false ∧ w.frozen? ⟨b, 3, none⟩ = false :=
  ⟨Lib.frozen_of_heap h 0, Lib.frozen_of_heap h 1, Lib.frozen_of_heap h 2, Lib.frozen_of_heap h 3⟩
theorem MB.lt {w : World} {b : Nat} {k : Int} {n x : Bytes} {u : Value} (h : MB w b k n x u) : b < w.heap.size := lt_of_heap h
theorem MB.below {w w' : World} {b B : Nat} {k : Int} {n x : Bytes} {u : Value} (h : MB w b k n x u) (hb : Below B w w') (hB : b < B) : MB w' b k n x u := (hb.block b hB).trans h
theorem heap_setM {w : World} {b j : Nat} {v : Value} {cs : Array Value} {t : TypeId} (h : w.heap[b]? = some (.cells cs t (0, 0))) : (w.setCell ⟨b, j, none⟩ v).heap[b]? = some (.cells (cs.setIfInBounds j v) t (0, 0)) := by
  obtain ⟨hlt, hk⟩ := Array.getElem?_eq_some_iff.1 h
  show (w.heap.modify b _)[b]? = _
  rw [Array.getElem?_eq_getElem (by rw [Array.size_modify]; exact hlt), Array.getElem_modify_self, hk]
  rfl
theorem MB.set0 {w : World} {b : Nat} {k : Int} {n x : Bytes} {u : Value} (h : MB w b k n x u) (k' : Int) : MB (w.setCell ⟨b, 0, none⟩ (.int .i64 k')) b k' n x u := by
  unfold MB; rw [heap_setM h]; rfl
theorem MB.set1 {w : World} {b : Nat} {k : Int} {n x : Bytes} {u : Value} (h : MB w b k n x u) (n' : Bytes) : MB (w.setCell ⟨b, 1, none⟩ (.string (bs n'))) b k n' x u := by
  unfold MB; rw [heap_setM h]; rfl
theorem MB.set2 {w : World} {b : Nat} {k : Int} {n x : Bytes} {u : Value} (h : MB w b k n x u) (x' : Bytes) : MB (w.setCell ⟨b, 2, none⟩ (.string (bs x'))) b k n x' u := by
  unfold MB; rw [heap_setM h]; rfl
theorem MB.set3 {w : World} {b : Nat} {k : Int} {n x : Bytes} {u : Value} (h : MB w b k n x u) (u' : Value) : MB (w.setCell ⟨b, 3, none⟩ u') b k n x u' := by
  unfold MB; rw [heap_setM h]; rfl
theorem MB.put {w : World} {b : Nat} {k : Int} {n x : Bytes} {u : Value} (h : MB w b k n x u) (k' : Int) (n' x' : Bytes) (u' : Value) :
    MB ((((w.setCell ⟨b, 0, none⟩ (.int .i64 k')).setCell ⟨b, 1, none⟩ (.string (bs n'))).setCell ⟨b, 2, none⟩ (.string (bs x'))).setCell ⟨b, 3, none⟩ u') b k' n' x' u' :=
  (((h.set0 k').set1 n').set2 x').set3 u'
theorem below_putM {B : Nat} {w w' : World} (h : Below B w w') {b : Nat} (hle : B ≤ b) (v0 v1 v2 v3 : Value) :
    Below B w ((((w'.setCell ⟨b, 0, none⟩ v0).setCell ⟨b, 1, none⟩ v1).setCell ⟨b, 2, none⟩ v2).setCell ⟨b, 3, none⟩ v3) :=
  (((h.setCell (p := ⟨_, 0, none⟩) hle _).setCell (p := ⟨_, 1, none⟩) hle _).setCell (p := ⟨_, 2, none⟩) hle _).setCell (p := ⟨_, 3, none⟩) hle _
theorem ret_mat {fn : Func} {p q r : Tmp} (h : fn.results = #[.cell p 27, .tmp q, .tmp r]) (tmps : Array Value) (w : World) (g : Nat) (a b c d : Value)
    (hp : tmps.getD p undef = .pointer (some ⟨g, 0, none⟩)) (hg : w.heap[g]? = some (.cells #[a, b, c, d] 27 (0, 0))) :
    (results fn tmps).run Try.prog w = .ok (.tuple #[.agg #[a, b, c, d], tmps.getD q undef, tmps.getD r undef]) w := by
  have hp' : tmps[p]?.getD undef = .pointer (some ⟨g, 0, none⟩) := by simpa using hp
  simp [results, h, hp', asAddr, run_loadVar_row w g 27 27 #[a, b, c, d] (0, 0) _ hg Try.underlying27 rfl (by kernel_rfl)]

/-! ### one text, appended to a row of the call's own -/
theorem app_str (w : World) {ops : Array Oper} {rest : List Oper} {o : Oper} {a : Act} {Q : Exit → Act → World → Prop} (hgd : o.guard = none) (s x : Operand)
    (ho : o.op = .call { callee := .builtin .append, args := #[s, x], argTypes := #[25, 25] })
    (base : Nat) (v : Value) (l : List Bytes) (y : Bytes) (g : Nat) (hs : a.eval s = v) (hx : a.eval x = .slice (some ⟨g, 0, none⟩) 1 1)
    (hnew : w.heap[g]? = some (.cells #[.string (bs y)] 9 (0, 0))) (hown : OwnS w base v l) (hbase : base ≤ w.heap.size) (hlen : l.length ≤ 1000000000)
    (h : ∀ v' w', OwnS w' base v' (l ++ [y]) → Below base w w' → wpList Try.prog ops Q rest (a.put o.dst v') w') :
    wpList Try.prog ops Q (o :: rest) a w := by
  obtain ⟨i0, hi, hz0, hz1, hz2⟩ := info_parts infoStr
  refine wpList_append_lies w hgd s x 25 ho base 9 i0 (.string .empty) 1 16 Try.underlying25 hi hz0 hz1 hz2 rfl (by decide) v l.length (l.map fun s => .string (bs s)) hs hown
    ⟨g, 0, none⟩ 1 1 [.string (bs y)] hx rfl (World.news_of_block hnew) ?_ (by omega) (by simp only [maxLen]; omega) (by omega) hbase _ rfl ?_
  · intro u hu
    simp at hu; subst hu; rfl
  · intro g' cap w' h1 h2 _ _
    refine h _ w' ?_ ((Below.refl _ _).grown h2 hbase (fun k hk => (hown.lt k hk).1))
    unfold OwnS
    simpa using h1
theorem OwnS.one (w : World) {base : Nat} (y : Bytes) (hb : base ≤ w.heap.size) : OwnS (w.alloc (.cells #[.string (bs y)] 9)) base (.slice (some ⟨w.heap.size, 0, none⟩) 1 1) [y] :=
  ⟨by simp, .inr ⟨w.heap.size, 1, #[.string (bs y)], rfl, hb, heap_alloc_new .., by simp, by simp [maxLen], by simp, by simp⟩⟩
theorem OwnS.slice {w : World} {base : Nat} {v : Value} {l : List Bytes} (h : OwnS w base v l) : ∃ a c, v = .slice a l.length c := by
  obtain ⟨a, c, e, _⟩ := h.open_
  exact ⟨a, c, e⟩
theorem OwnS.keep {w w' : World} {base B : Nat} {v : Value} {l : List Bytes} (h : OwnS w base v l) (hb : w.grownBy w' (some B)) (hB : B < base) : OwnS w' base v l := by
  obtain ⟨h1, h2⟩ := h
  refine ⟨h1, ?_⟩
  rcases h2 with h2 | ⟨g, cap, cur, hv, hg, hh, r⟩
  · exact .inl h2
  · exact .inr ⟨g, cap, cur, hv, hg, by rw [hb.block g (Array.getElem?_eq_some_iff.1 hh).1 (by intro e; cases e; omega)]; exact hh, r⟩

theorem par1_none {nm r : Bytes} (h : mq r = none) : par1 nm r = none := by unfold par1; rw [h]
theorem par1_lo {nm r v r1 : Bytes} (h : mq r = some (v, r1)) (h3 : (headM nm).1 < 3) : par1 nm r = some (⟨(headM nm).1, (headM nm).2, v, []⟩, r1) := by
  unfold par1; rw [h]; simp only; rw [if_pos h3]
theorem par1_hi {nm r v r1 : Bytes} (h : mq r = some (v, r1)) (h3 : ¬ (headM nm).1 < 3) : par1 nm r = (barsF (r1.length + 1) r1 [v]).map fun x => (⟨3, (headM nm).2, [], x.1⟩, x.2) := by
  unfold par1; rw [h]; simp only; rw [if_neg h3]
  cases barsF (r1.length + 1) r1 [v] <;> rfl
theorem OwnS.less {w : World} {base b' : Nat} {v : Value} {l : List Bytes} (h : OwnS w base v l) (hb : b' ≤ base) : OwnS w b' v l := by
  obtain ⟨h1, h2⟩ := h
  refine ⟨h1, ?_⟩
  rcases h2 with h2 | ⟨g, cap, cur, hv, hg, r⟩
  · exact .inl h2
  · exact .inr ⟨g, cap, cur, hv, by omega, r⟩
theorem OwnS.setOther {w : World} {base mb : Nat} {v : Value} {l : List Bytes} (h : OwnS w base v l) (hm : mb < base) (j : Nat) (x : Value) : OwnS (w.setCell ⟨mb, j, none⟩ x) base v l :=
  h.keep (B := mb) ⟨rfl, rfl, rfl, by simp [World.setCell], fun k _ hk => Below.heap_setCell _ _ _ _ (fun e => hk (by simp [e]))⟩ hm
theorem OwnS.ownNe {w : World} {base mb : Nat} {v : Value} {l : List Bytes} (h : OwnS w base v l) (hm : mb < base) : v.ownBlock ≠ some mb := fun e => by
  have := (h.lt mb e).1
  omega

/-- What match.one says. -/
def OnePost (w : World) (o : Option (Mat × Bytes)) (e : Ending) (w' : World) : Prop :=
  ∃ (k : Int) (n x r : Bytes) (ua : Option Addr) (ul uc : Nat) (b : Bool), e = .returned (.tuple #[.agg #[.int .i64 k, .string (bs n), .string (bs x), .slice ua ul uc], .string (bs r), .bool b]) ∧ Below w.heap.size w w' ∧
    (o = none → b = false) ∧ (∀ m r', o = some (m, r') → m.k = k ∧ m.n = n ∧ m.x = x ∧ r' = r ∧ b = true ∧ OwnS w' w.heap.size (.slice ua ul uc) m.ss)
def measB (r b : Value) : Nat := match b, r with
  | .bool true, .string s => s.size + 1
  | _, _ => 0
/-- A round of the loop over a set begins. -/
def SRel (w : World) (mb : Nat) (n : Bytes) (O : Option (List Bytes × Bytes)) (p q : Value) (wr : World) : Prop :=
  ∃ acc r b u, p = .string (bs r) ∧ q = .bool b ∧ MB wr mb 3 n [] u ∧ OwnS wr (mb + 1) u acc ∧ Below w.heap.size w wr ∧ r.length ≤ 1000000 ∧ acc.length + r.length ≤ 1000000 ∧
    (b = true → ∃ fuel, r.length < fuel ∧ barsF fuel r acc = O) ∧ (b = false → O = none)

end Go.Proofs.Ytamdkmcdleilpaa
