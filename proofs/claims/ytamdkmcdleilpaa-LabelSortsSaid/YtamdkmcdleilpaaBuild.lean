/-
  strings.Builder in a call, beside other blocks of the call's own: what it holds, and what it keeps.
-/
import Derived.Test.YtamdkmcdleilpaaStr
import Derived.Lib.Builder
import Derived.Lib.AppendStr
import Derived.Lib.UnsafeStr
import Derived.Maps.AppendAt
import Derived.Laws.Externs
import Derived.Shelf.RegionOpenPlain
import Derived.BigQuiet
namespace Go.Proofs.Ytamdkmcdleilpaa
open Go.RowKit

def cellsB (l : Bytes) : List Value := l.map fun b => Value.int .u8 b.toNat
theorem cellsB_length (l : Bytes) : (cellsB l).length = l.length := List.length_map ..
theorem cellsB_str (l : Bytes) : Lib.strCells (bs l) = cellsB l := by simp [Lib.strCells, cellsB, bs]

/-- The builder in block b holds l; its row is none of the blocks that Ks names, which are as Ks says. -/
def Hb (b : Nat) (Ks : Nat → Option Obj) (l : Bytes) (w : World) : Prop :=
  ∃ p v, (p = .pointer none ∨ p = .pointer (some ⟨b, 0, none⟩)) ∧ w.heap[b]? = some (.cells #[p, v] 64 (0, 0)) ∧ w.ownsRow b 5 1 v l.length (cellsB l) ∧
    ∀ k o, Ks k = some o → k ≠ b ∧ v.ownBlock ≠ some k ∧ w.heap[k]? = some o

theorem lt_of_heap {w : World} {k : Nat} {o : Obj} (h : w.heap[k]? = some o) : k < w.heap.size := by
  rcases Nat.lt_or_ge k w.heap.size with h' | h'
  · exact h'
  · simp [Array.getElem?_eq_none h'] at h
theorem Hb.lt {b : Nat} {Ks : Nat → Option Obj} {l : Bytes} {w : World} (h : Hb b Ks l w) : b < w.heap.size := by
  obtain ⟨_, _, _, h, _⟩ := h
  exact lt_of_heap h
theorem Hb.kept {b : Nat} {Ks : Nat → Option Obj} {l : Bytes} {w : World} (h : Hb b Ks l w) {k : Nat} {o : Obj} (hk : Ks k = some o) : w.heap[k]? = some o := by
  obtain ⟨_, _, _, _, _, h⟩ := h
  exact (h k o hk).2.2
/-- A new builder. -/
theorem Hb.fresh (w : World) : Hb w.heap.size (fun _ => none) [] (w.alloc (.cells #[.pointer none, .slice none 0 0] 64)) :=
  ⟨_, _, .inl rfl, heap_alloc_new w _, World.ownsRow_nil _ _ _ _, fun k o h => by cases h⟩
/-- A new block, to be kept. -/
theorem Hb.alloc {b : Nat} {Ks : Nat → Option Obj} {l : Bytes} {w : World} (h : Hb b Ks l w) (o : Obj) :
    Hb b (fun k => if k = w.heap.size then some o else Ks k) l (w.alloc o) := by
  have hlt := h.lt
  obtain ⟨p, v, hp, hb, hown, hk⟩ := h
  refine ⟨p, v, hp, (Lib.alloc_old w o b hlt).trans hb, hown.alloc _, fun k o' h => ?_⟩
  change (if k = w.heap.size then some o else Ks k) = some o' at h
  by_cases e : k = w.heap.size
  · rw [if_pos e] at h
    obtain rfl : o = o' := by simpa using h
    refine ⟨by omega, fun h' => ?_, by rw [e]; exact heap_alloc_new w _⟩
    have := (hown.lt k h').2
    omega
  · rw [if_neg e] at h
    obtain ⟨k1, k2, k3⟩ := hk k o' h
    exact ⟨k1, k2, (Lib.alloc_old w o k (lt_of_heap k3)).trans k3⟩
theorem Hb.drew {b : Nat} {Ks : Nat → Option Obj} {l : Bytes} {w : World} (h : Hb b Ks l w) : Hb b Ks l w.drew := h

/-- The builder behind a write. -/
theorem Hb.put {b : Nat} {Ks : Nat → Option Obj} {l l' : Bytes} {w w1 : World} {p v v' : Value} (hp : p = .pointer none ∨ p = .pointer (some ⟨b, 0, none⟩))
    (hb : w.heap[b]? = some (.cells #[p, v] 64 (0, 0))) (hown : w.ownsRow b 5 1 v l.length (cellsB l))
    (hk : ∀ k o, Ks k = some o → k ≠ b ∧ v.ownBlock ≠ some k ∧ w.heap[k]? = some o)
    (hown' : w1.ownsRow b 5 1 v' l'.length (cellsB l')) (hg : w.grownBy w1 v.ownBlock) (hat : v'.ownBlock = v.ownBlock ∨ ∃ g, v'.ownBlock = some g ∧ w.heap.size ≤ g) :
    Hb b Ks l' (w1.setCell ⟨b, 1, none⟩ v') := by
  have hlt := lt_of_heap hb
  have hne0 := Lib.ownBlock_ne hown hb (by decide)
  have hb1 : w1.heap[b]? = some (.cells #[p, v] 64 (0, 0)) := (hg.block b hlt (fun e => hne0 e.symm)).trans hb
  obtain ⟨_, vv, h1, h2, h3⟩ := Lib.BuilderAt.put (T := 64) (e := 5) (Nat.le_refl b) hb1 (bs' := cellsB l') (by rw [cellsB_length]; exact hown') (by decide)
  have hvv : vv = v' := by
    have : (w1.setCell ⟨b, 1, none⟩ v').heap[b]? = some (.cells #[p, v'] 64 (0, 0)) := by simp [World.setCell, Array.getElem?_modify, hb1]
    rw [this] at h1
    simpa using h1.symm
  subst hvv
  rw [cellsB_length] at h2
  refine ⟨p, vv, hp, h1, h2, fun k o h => ?_⟩
  obtain ⟨k1, k2, k3⟩ := hk k o h
  have klt := lt_of_heap k3
  refine ⟨k1, ?_, ?_⟩
  · rcases hat with e | ⟨g, e, hge⟩
    · rw [e]; exact k2
    · rw [e]; intro e'; cases e'; omega
  · rw [Below.heap_setCell _ _ _ _ (fun e => k1 (by simpa using e)), hg.block k klt (fun e => k2 e.symm)]
    exact k3

theorem sizeBuilder : (Try.prog.info? 64).map (·.size) = some 2 := by kernel_rfl
theorem infoByte : (Try.prog.info? 5).map (fun i => (i.zero, i.size, i.bytes)) = some (some (.int .u8 0), 1, 1) := by kernel_rfl
theorem liesBuilder : liesAt Try.prog Try.prog.depth 64 (2 / Try.prog.cellsOf 64) 0 64 1 = true := by kernel_rfl
theorem cellsByte : Try.prog.cellsOf 5 = 1 := by kernel_rfl

set_option maxHeartbeats 1000000 in
set_option maxRecDepth 100000 in
theorem copyCheck_used (b : Nat) (w : World) (h0 : w.cell? ⟨b, 0, none⟩ = some (.pointer (some ⟨b, 0, none⟩))) :
    Calls Try.prog 76 #[.pointer (some ⟨b, 0, none⟩)] w fun e w' => e = .returned (.tuple #[]) ∧ w = w' := by
  obtain ⟨j, hj, _⟩ := Option.map_eq_some_iff.1 sizeBuilder
  have hne := Lib.run_neq_ptr_same (P := Try.prog) w ⟨b, 0, none⟩ Try.underlying61 hj
  clear hj
  go_enter Try.func76, Try.ntmps76
  go_wp2_with fail
  go_end0
  exact ⟨rfl, rfl⟩

set_option maxHeartbeats 1000000 in
set_option maxRecDepth 100000 in
theorem copyCheck_fresh (b : Nat) (w : World) (h0 : w.cell? ⟨b, 0, none⟩ = some (.pointer none)) (hsh : w.shape? b = some (64, 2)) (hfz : w.frozen? ⟨b, 0, none⟩ = false) :
    Calls Try.prog 76 #[.pointer (some ⟨b, 0, none⟩)] w fun e w' => e = .returned (.tuple #[]) ∧ w' = w.setCell ⟨b, 0, none⟩ (.pointer (some ⟨b, 0, none⟩)) := by
  obtain ⟨j, hj, hjs⟩ := Option.map_eq_some_iff.1 sizeBuilder
  have h1 := Lib.run_to_unsafe (P := Try.prog) w ⟨b, 0, none⟩ Try.underlying61 Try.underlying97 hj (by rw [hjs]; decide) hsh (Nat.zero_lt_succ 1)
  have h2 := Lib.run_from_unsafe (P := Try.prog) w ⟨b, 0, none⟩ Try.underlying97 Try.underlying61 hj hsh liesBuilder
  clear hj hjs
  go_enter Try.func76, Try.ntmps76
  go_wp2_with fail
  rw [run_callFunc_extern Try.func88 (by kernel_rfl) (by kernel_rfl) (by kernel_rfl) (e := Extern.AbiNoEscape.same) (by kernel_rfl)]
  rw [Lib.run_noEscape]
  simp only [Result.andThen]
  rw [Oper.upon_value]
  go_wp2_with fail
  go_end0
  exact ⟨rfl, rfl⟩

theorem copyCheck_any {b : Nat} {Ks : Nat → Option Obj} {l : Bytes} {w : World} (h : Hb b Ks l w) :
    Calls Try.prog 76 #[.pointer (some ⟨b, 0, none⟩)] w fun e w' => e = .returned (.tuple #[]) ∧ Hb b Ks l w' ∧ Below b w w' ∧ w'.heap.size = w.heap.size ∧
      w'.cell? ⟨b, 0, none⟩ = some (.pointer (some ⟨b, 0, none⟩)) := by
  have h' := h
  obtain ⟨p, v, hp, hb, hown, hk⟩ := h
  have hcell : w.cell? ⟨b, 0, none⟩ = some p := by rw [Lib.cell_of_heap hb]; rfl
  have hne := Lib.ownBlock_ne hown hb (by decide)
  rcases hp with rfl | rfl
  · refine (copyCheck_fresh b w hcell (by simp [World.shape?, hb]) (Lib.frozen_of_heap hb 0)).mono ?_
    rintro e w' ⟨rfl, rfl⟩
    have hb1 : (w.setCell ⟨b, 0, none⟩ (.pointer (some ⟨b, 0, none⟩))).heap[b]? = some (.cells #[.pointer (some ⟨b, 0, none⟩), v] 64 (0, 0)) := by
      simp [World.setCell, Array.getElem?_modify, hb]
    refine ⟨rfl, ⟨_, v, .inr rfl, hb1, ?_, fun k o h => ?_⟩, (Below.refl b w).setCell (p := ⟨b, 0, none⟩) (Nat.le_refl _) _, by simp [World.setCell], by rw [Lib.cell_of_heap hb1]; rfl⟩
    · exact hown.kept (row := some b) ⟨rfl, rfl, rfl, by simp [World.setCell], fun k _ hk => Below.heap_setCell _ _ _ _ (fun e => hk (by simp [e]))⟩ (Or.inr hne)
    · obtain ⟨k1, k2, k3⟩ := hk k o h
      exact ⟨k1, k2, by rw [Below.heap_setCell _ _ _ _ (fun e => k1 (by simpa using e))]; exact k3⟩
  · refine (copyCheck_used b w hcell).mono ?_
    rintro e w' ⟨rfl, rfl⟩
    exact ⟨rfl, h', Below.refl _ _, rfl, hcell⟩

/-- 'append(row, c)', c one byte: where the row then lies. -/
theorem wpList_byte1 (w : World) {ops : Array Oper} {rest : List Oper} {o : Oper} {a : Act} {Q : Exit → Act → World → Prop} (hg : o.guard = none) (s x : Operand)
    (ho : o.op = .call { callee := .builtin .append, args := #[s, x], argTypes := #[62, 62] })
    (base : Nat) (v : Value) (l : Bytes) (c : UInt8) (hs : a.eval s = v) (hx : a.eval x = .slice (some ⟨w.heap.size, 0, none⟩) 1 1)
    (hown : w.ownsRow base 5 1 v l.length (cellsB l)) (hbase : base ≤ w.heap.size) (hlen : l.length ≤ 1000000000000)
    (h : ∀ v' w', w'.ownsRow base 5 1 v' (l ++ [c]).length (cellsB (l ++ [c])) → w.grownBy w' v.ownBlock → (v'.ownBlock = v.ownBlock ∨ ∃ g, v'.ownBlock = some g ∧ w.heap.size ≤ g) → wpList Try.prog ops Q rest (a.put o.dst v') w') :
    wpList Try.prog ops Q (o :: rest) a (w.alloc (.cells #[.int .u8 c.toNat] 5)) := by
  obtain ⟨i0, hi, hz0, hz1, hz2⟩ := info_parts infoByte
  refine wpList_append_own_at _ hg s x 62 ho base 5 i0 (.int .u8 0) 1 1 Try.underlying62 hi hz0 hz1 hz2 rfl (by decide) v l.length (cellsB l) hs (hown.alloc _)
    ⟨w.heap.size, 0, none⟩ 1 1 [.int .u8 c.toNat] hx rfl (cell_one_new _ _ _) ?_ (by simp only [maxLen]; omega) (by omega) (by simp; omega) ?_
  · intro u hu
    simp at hu; subst hu; rfl
  · intro v' w' h1 h2 _ hat
    have hgr : w.grownBy w' v.ownBlock := ⟨h2.os, h2.tape, h2.output, Nat.le_trans (by simp) h2.size, fun k hk hne => (h2.block k (by simp; omega) hne).trans (Below.heap_alloc _ _ _ hk)⟩
    refine h v' w' ?_ hgr ?_
    · simpa [cellsB] using h1
    · rcases hat with e | e
      · exact .inl e
      · exact .inr ⟨_, e, by simp⟩

set_option maxRecDepth 100000 in
/-- 'append(row, s...)', s a string: where the row then lies. -/
theorem wpList_bytes (w : World) {ops : Array Oper} {rest : List Oper} {o : Oper} {a : Act} {Q : Exit → Act → World → Prop} (hg : o.guard = none) (s x : Operand)
    (ho : o.op = .call { callee := .builtin .append, args := #[s, x], argTypes := #[62, 9] })
    (base : Nat) (v : Value) (l m : Bytes) (hs : a.eval s = v) (hx : a.eval x = .string (bs m))
    (hown : w.ownsRow base 5 1 v l.length (cellsB l)) (hbase : base ≤ w.heap.size) (hlen : l.length + m.length ≤ 1000000000000)
    (h : ∀ v' w', w'.ownsRow base 5 1 v' (l ++ m).length (cellsB (l ++ m)) → w.grownBy w' v.ownBlock → (v'.ownBlock = v.ownBlock ∨ ∃ g, v'.ownBlock = some g ∧ w.heap.size ≤ g) → wpList Try.prog ops Q rest (a.put o.dst v') w') :
    wpList Try.prog ops Q (o :: rest) a w := by
  obtain ⟨i0, hi, hz0, hz1, hz2⟩ := info_parts infoByte
  refine wpList_plain hg fun K hK => ?_
  obtain ⟨v', w', hr, h2, h3, h4⟩ := Lib.run_append_own_string (P := Try.prog) w base 62 9 o.type 5 i0 Try.underlying62 Try.underlying9 hi hz0 hz1 hz2 v l.length (cellsB l) hown (bs m)
    (by rw [bs_size]; unfold maxLen; omega) (by rw [bs_size]; omega) hbase
  have hat : v'.ownBlock = v.ownBlock ∨ ∃ g, v'.ownBlock = some g ∧ w.heap.size ≤ g := by
    rcases hown.2 with ⟨hv, hz⟩ | ⟨g, cap, cur, hv, _, hg', hnc, hcm, hcs, htake⟩
    · rcases h2.2 with ⟨hv', _⟩ | ⟨g', cap', cur', hv', hb', _⟩
      · left; rw [hv, hv']
      · by_cases hm : m.length = 0
        · have := h4.2 ⟨hv, hm⟩
          rw [hv'] at this; cases this
        · right
          subst hv
          have hr2 := run_append_nil_string (P := Try.prog) w 62 9 o.type 5 i0 (.int .u8 0) Try.underlying62 Try.underlying9 hi hz0 (bs m) (by rw [bs_size]; omega) (by rw [bs_size]; omega) (by rw [bs_size, hz2]; omega)
          rw [hr2] at hr
          injection hr with e1 e2
          subst e1
          exact ⟨_, rfl, Nat.le_refl _⟩
    · subst hv
      by_cases hroom : l.length + (bs m).size ≤ cap
      · left
        have hr2 := Lib.run_append_room_string (P := Try.prog) w 62 9 o.type 5 i0 Try.underlying62 Try.underlying9 hi hz1 g l.length cap cur hg' (bs m) hroom (by omega)
        rw [hr2] at hr
        injection hr with e1 e2
        subst e1
        rfl
      · right
        have hr2 := Lib.run_append_grow_string (P := Try.prog) w 62 9 o.type 5 i0 (.int .u8 0) Try.underlying62 Try.underlying9 hi hz0 ⟨g, 0, none⟩ l.length cap (cellsB l) (by rw [hz1, cellsB_length]; omega) (hown.cells (g := g) rfl) (bs m) (by omega) (by rw [bs_size]; omega)
          (by rw [hz2]; exact growslice_fits (by omega) (by rw [bs_size]; omega))
        rw [hr2] at hr
        injection hr with e1 e2
        subst e1
        exact ⟨_, rfl, Nat.le_refl _⟩
  unfold Oper.wp execOp
  simp only [ho, resolve, invoke, builtin, Sem.run_bind, Sem.run_pure, Result.andThen_ok, List.map_toArray, List.map_cons, List.map_nil, hs, hx, hr]
  refine hK _ _ (h v' w' ?_ h3 hat)
  rw [cellsB_str, bs_size] at h2
  simpa [cellsB] using h2

theorem row_one {w : World} {base n : Nat} {v : Value} {xs : List Value} (h : w.ownsRow base 5 1 v n xs) : ∃ a c, v = .slice a n c := by
  rcases h.2 with ⟨hv, hz⟩ | ⟨g, cap, cur, hv, _⟩
  · exact ⟨none, 0, by rw [hv, hz]⟩
  · exact ⟨_, _, hv⟩

set_option maxHeartbeats 2000000 in
set_option maxRecDepth 100000 in
theorem writeByte_any {b : Nat} {Ks : Nat → Option Obj} {l : Bytes} {w : World} (c : UInt8) (h : Hb b Ks l w) (hlen : l.length ≤ 1000000000000) :
    Calls Try.prog 50 #[.pointer (some ⟨b, 0, none⟩), .int .u8 c.toNat] w fun e w' => e = .returned .nilIface ∧ Hb b Ks (l ++ [c]) w' ∧ Below b w w' := by
  have HC := Lib.hid (copyCheck_any h)
  clear h
  go_enter Try.func50, Try.ntmps50
  go_wp2_with fail
  refine HC.out.mono ?_
  rintro e w1 ⟨rfl, hh, hbl, -, c0⟩
  clear HC
  obtain ⟨p, v, hp, hb, hown, hk⟩ := hh
  obtain ⟨va, vc, rfl⟩ := row_one hown
  have c1 : w1.cell? ⟨b, 1, none⟩ = some (.slice va l.length vc) := by rw [Lib.cell_of_heap hb]; rfl
  have hlt := lt_of_heap hb
  have HB := Lib.hid hb
  have HO := Lib.hid hown
  have HK := Lib.hid hk
  have HP := Lib.hid hp
  have HL := Lib.hid hbl
  clear hb hown hk hp hbl
  go_wp2_with (at_builtin; refine wpList_byte1 _ rfl (.tmp 11) (.tmp 13) rfl b _ l c (by rfl) (by rfl) HO.out (by omega) (by omega) ?_; intro v' w2 hown' hgrow hat; obtain ⟨va', vc', rfl⟩ := row_one hown'; have HO' := Lib.hid hown'; have HG := Lib.hid hgrow; have HA := Lib.hid hat; clear hown' hgrow hat; have hb2 := (HG.out.block b hlt (fun e => Lib.ownBlock_ne HO.out HB.out (by decide) e.symm)).trans HB.out; have f1 := Lib.frozen_of_heap hb2 1; have d1 : w2.cell? ⟨b, 1, none⟩ = some (.slice va l.length vc) := (by rw [Lib.cell_of_heap hb2]; rfl); clear hb2)
  go_ret
  have hs1 := HG.out.size
  exact ⟨rfl, Hb.put HP.out HB.out HO.out HK.out (by have h' := HO'.out; rw [List.length_append] at h' ⊢; exact h') HG.out (by have h' := HA.out; rw [List.length_append] at h'; exact h'), ((HL.out.trans ((Below.refl b _).grown HG.out (by omega) (fun k hk => (HO.out.lt k hk).1))).setCell (p := ⟨b, 1, none⟩) (Nat.le_refl _) _)⟩

set_option maxHeartbeats 2000000 in
set_option maxRecDepth 100000 in
theorem writeString_any {b : Nat} {Ks : Nat → Option Obj} {l : Bytes} {w : World} (m : Bytes) (h : Hb b Ks l w) (hlen : l.length + m.length ≤ 1000000000000) :
    Calls Try.prog 51 #[.pointer (some ⟨b, 0, none⟩), .string (bs m)] w fun e w' => e = .returned (.tuple #[.int .i64 m.length, .nilIface]) ∧ Hb b Ks (l ++ m) w' ∧ Below b w w' := by
  have HC := Lib.hid (copyCheck_any h)
  clear h
  go_enter Try.func51, Try.ntmps51
  go_wp2_with fail
  refine HC.out.mono ?_
  rintro e w1 ⟨rfl, hh, hbl, -, c0⟩
  clear HC
  obtain ⟨p, v, hp, hb, hown, hk⟩ := hh
  obtain ⟨va, vc, rfl⟩ := row_one hown
  have c1 : w1.cell? ⟨b, 1, none⟩ = some (.slice va l.length vc) := by rw [Lib.cell_of_heap hb]; rfl
  have hlt := lt_of_heap hb
  have HB := Lib.hid hb
  have HO := Lib.hid hown
  have HK := Lib.hid hk
  have HP := Lib.hid hp
  have HL := Lib.hid hbl
  clear hb hown hk hp hbl
  go_wp2_with (at_builtin; refine wpList_bytes _ rfl (.tmp 12) (.tmp 13) rfl b _ l m (by rfl) (by rfl) HO.out (by omega) (by omega) ?_; intro v' w2 hown' hgrow hat; obtain ⟨va', vc', rfl⟩ := row_one hown'; have HO' := Lib.hid hown'; have HG := Lib.hid hgrow; have HA := Lib.hid hat; clear hown' hgrow hat; have hb2 := (HG.out.block b hlt (fun e => Lib.ownBlock_ne HO.out HB.out (by decide) e.symm)).trans HB.out; have f1 := Lib.frozen_of_heap hb2 1; have d1 : w2.cell? ⟨b, 1, none⟩ = some (.slice va l.length vc) := (by rw [Lib.cell_of_heap hb2]; rfl); clear hb2)
  go_ret2
  have hs1 := HG.out.size
  exact ⟨rfl, Hb.put HP.out HB.out HO.out HK.out (by have h' := HO'.out; rw [List.length_append] at h' ⊢; exact h') HG.out (by have h' := HA.out; rw [List.length_append] at h'; exact h'), ((HL.out.trans ((Below.refl b _).grown HG.out (by omega) (fun k hk => (HO.out.lt k hk).1))).setCell (p := ⟨b, 1, none⟩) (Nat.le_refl _) _)⟩

set_option maxHeartbeats 1000000 in
set_option maxRecDepth 100000 in
theorem builderString_any {b : Nat} {Ks : Nat → Option Obj} {l : Bytes} {w : World} (h : Hb b Ks l w) (h0 : l ≠ []) :
    Calls Try.prog 52 #[.pointer (some ⟨b, 0, none⟩)] w fun e w' => e = .returned (.string (bs l)) ∧ Below b w w' := by
  obtain ⟨p, v, hp, hb, hown, hk⟩ := h
  clear hk hp
  have hl0 : l.length ≠ 0 := by simpa using h0
  obtain ⟨g, cap, cur, rfl, hbg, hg, hnc, hcm, hcs, htake⟩ : ∃ g cap cur, v = .slice (some ⟨g, 0, none⟩) l.length cap ∧ b ≤ g ∧ w.heap[g]? = some (.cells cur 5 (0, 0)) ∧ l.length ≤ cap ∧ cap ≤ maxLen ∧ cur.size = cap * 1 ∧ cur.toList.take (l.length * 1) = cellsB l := by
    rcases hown.2 with ⟨_, hz⟩ | ⟨g, cap, cur, hv, r⟩
    · exact absurd hz hl0
    · exact ⟨g, cap, cur, hv, r⟩
  have c1 : w.drew.cell? ⟨b, 1, none⟩ = some (.slice (some ⟨g, 0, none⟩) l.length cap) := by
    have : w.drew.heap[b]? = some (.cells #[p, .slice (some ⟨g, 0, none⟩) l.length cap] 64 (0, 0)) := hb
    rw [Lib.cell_of_heap this]; rfl
  have hSD : (Builtin.unsafeSliceData_ #[62] 90 #[.slice (some ⟨g, 0, none⟩) l.length cap]).run Try.prog w.drew = .ok (.pointer (some ⟨g, 0, none⟩)) w.drew :=
    Lib.run_unsafeSliceData_row _ _ _ _ _ _ (by omega)
  have hUS : (Builtin.unsafeString_ #[90, 3] 9 #[.pointer (some ⟨g, 0, none⟩), .int .i64 l.length]).run Try.prog w.drew = .ok (.string ⟨l.toArray⟩) (w.drew.freeze ⟨g, 0, none⟩ l.length) := by
    refine Lib.run_unsafeString_row w.drew 90 3 9 5 Try.underlying90 cellsByte g cur.size (by have hg' : w.drew.heap[g]? = some (.cells cur 5 (0, 0)) := hg; simp [World.shape?, hg']) l h0 (by omega) (by unfold maxLen at hcm; omega) ?_
    intro j x hx
    exact hown.cells (g := g) rfl j (.int .u8 x.toNat) (by simp [cellsB, hx])
  have mixed : Try.prog.follows .mixedOrders = true := by kernel_rfl
  have HF : Hid (Below b w (w.drew.freeze ⟨g, 0, none⟩ l.length)) := Lib.hid (Lib.below_freeze (Below.drew (Below.refl b w)) (p := ⟨g, 0, none⟩) hbg _)
  clear hb hown hg htake hcs hnc hcm hbg h0 hl0
  go_enter Try.func52, Try.ntmps52
  go_wp2_with fail
  go_region_o
  all_goals (go_wp2; go_ret; exact ⟨rfl, HF.out⟩)

end Go.Proofs.Ytamdkmcdleilpaa
