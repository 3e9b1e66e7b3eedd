/-
  strings.Builder, alone or embedded at the head of a greater block; beside other blocks of the call's own.
-/
import Derived.Test.YtheenlomlmbjaaaGreatDoorTZig
import Derived.Lib.Builder
import Derived.Lib.AppendStr
import Derived.Lib.UnsafeStr
import Derived.Maps.AppendAt
import Derived.Laws.Externs
import Derived.Shelf.RegionOpenPlain
import Derived.BigQuiet
set_option linter.unusedSimpArgs false
set_option linter.unusedVariables false
namespace Go.Proofs.YtheenlomlmbjaaaGreatDoor
open Go.RowKit

theorem cellsB_str (l : Bytes) : Lib.strCells (bs l) = cellsB l := by simp [Lib.strCells, cellsB, bs]
theorem lt_of_heap {w : World} {k : Nat} {o : Obj} (h : w.heap[k]? = some o) : k < w.heap.size := by
  rcases Nat.lt_or_ge k w.heap.size with h' | h'
  · exact h'
  · simp [Array.getElem?_eq_none h'] at h

def Bw (T : TypeId) (xs : List Value) (b : Nat) (v : Value) (l : Bytes) (w : World) : Prop :=
  ∃ p, (p = .pointer none ∨ p = .pointer (some ⟨b, 0, none⟩)) ∧ w.heap[b]? = some (.cells (p :: v :: xs).toArray T (0, 0)) ∧ w.ownsRow b 5 1 v l.length (cellsB l)
structure TOk (T : TypeId) (n : Nat) : Prop where
  ne : T ≠ 5
  lies : liesAt Tryz.prog Tryz.prog.depth T (n / Tryz.prog.cellsOf T) 0 124 1 = true
theorem tokBuilder : TOk 124 2 := ⟨by decide, by kernel_rfl⟩
theorem tokWriter : TOk 439 4 := ⟨by decide, by kernel_rfl⟩

structure Wr (b : Nat) (v v' : Value) (w w' : World) : Prop where
  os : w'.os = w.os
  tape : w'.tape = w.tape
  output : w'.output = w.output
  size : w.heap.size ≤ w'.heap.size
  block : ∀ k, k < w.heap.size → k ≠ b → v.ownBlock ≠ some k → w'.heap[k]? = w.heap[k]?
  at_ : v'.ownBlock = v.ownBlock ∨ ∃ g, v'.ownBlock = some g ∧ w.heap.size ≤ g

theorem Bw.lt {T : TypeId} {xs : List Value} {b : Nat} {v : Value} {l : Bytes} {w : World} (h : Bw T xs b v l w) : b < w.heap.size := by
  obtain ⟨_, _, h, _⟩ := h
  exact lt_of_heap h
theorem Bw.ne {T : TypeId} {xs : List Value} {b : Nat} {v : Value} {l : Bytes} {w : World} (h : Bw T xs b v l w) {k : Nat} {o : Array Value} {U : TypeId} {fr : Nat × Nat} (hk : w.heap[k]? = some (.cells o U fr)) (hU : U ≠ 5) : v.ownBlock ≠ some k := by
  obtain ⟨_, _, _, h⟩ := h
  exact Lib.ownBlock_ne h hk hU
theorem Bw.neSelf {T : TypeId} {xs : List Value} {b n : Nat} {v : Value} {l : Bytes} {w : World} (h : Bw T xs b v l w) (hT : TOk T n) : v.ownBlock ≠ some b := by
  obtain ⟨_, _, hb, hown⟩ := h
  exact Lib.ownBlock_ne hown hb hT.ne
theorem Bw.rowLt {T : TypeId} {xs : List Value} {b : Nat} {v : Value} {l : Bytes} {w : World} (h : Bw T xs b v l w) {k : Nat} (hk : v.ownBlock = some k) : b ≤ k ∧ k < w.heap.size := by
  obtain ⟨_, _, _, hown⟩ := h
  exact hown.lt k hk
theorem Bw.keep {T U : TypeId} {xs ys : List Value} {b c n m : Nat} {v v' u : Value} {l l' : Bytes} {w w' : World} (h : Bw T xs b v l w) (hT : TOk T n) (hc : Bw U ys c u l' w) (hU : TOk U m) (hw : Wr c u v' w w') (hne : b ≠ c)
    (hvu : v.ownBlock = none ∨ v.ownBlock ≠ u.ownBlock) : Bw T xs b v l w' := by
  obtain ⟨p, hp, hb, hown⟩ := h
  have hub : u.ownBlock ≠ some b := by
    obtain ⟨_, _, _, hco⟩ := hc
    exact Lib.ownBlock_ne hco hb hT.ne
  have hvc : v.ownBlock ≠ some c := by
    obtain ⟨_, _, hcb, _⟩ := hc
    exact Lib.ownBlock_ne hown hcb hU.ne
  refine ⟨p, hp, (hw.block b (lt_of_heap hb) hne hub).trans hb, ?_⟩
  refine ⟨hown.1, ?_⟩
  rcases hown.2 with h2 | ⟨g, cap, cur, hv, hg, hh, r⟩
  · exact .inl h2
  · refine .inr ⟨g, cap, cur, hv, hg, ?_, r⟩
    rw [hw.block g (lt_of_heap hh) (by intro e; subst e; exact hvc (by rw [hv]; rfl)) (by
      intro e
      rcases hvu with h0 | h0
      · rw [hv] at h0; cases h0
      · exact h0 (by rw [hv, e]; rfl))]
    exact hh
theorem Bw.below {T : TypeId} {xs : List Value} {b : Nat} {v : Value} {l : Bytes} {w w' : World} (h : Bw T xs b v l w) (hw : Below w.heap.size w w') : Bw T xs b v l w' := by
  obtain ⟨p, hp, hb, hown⟩ := h
  refine ⟨p, hp, (hw.block b (lt_of_heap hb)).trans hb, hown.1, ?_⟩
  rcases hown.2 with h2 | ⟨g, cap, cur, hv, hg, hh, r⟩
  · exact .inl h2
  · exact .inr ⟨g, cap, cur, hv, hg, (hw.block g (lt_of_heap hh)).trans hh, r⟩
theorem Wr.below {b B : Nat} {v v' : Value} {w w' : World} (h : Wr b v v' w w') (hb : B ≤ b) (hB : B ≤ w.heap.size) (hv : ∀ k, v.ownBlock = some k → B ≤ k) : Below B w w' :=
  ⟨h.os, h.tape, h.output, h.size, fun k hk => h.block k (by omega) (by omega) (fun e => by have := hv k e; omega)⟩
theorem Bw.wrBelow {T : TypeId} {xs : List Value} {b B : Nat} {v v' : Value} {l : Bytes} {w w' : World} (h : Bw T xs b v l w) (hw : Wr b v v' w w') (hB : B ≤ b) : Below B w w' :=
  hw.below hB (by have := h.lt; omega) (fun k hk => by have := (h.rowLt hk).1; omega)

theorem Bw.put {T : TypeId} {xs : List Value} {b n : Nat} {l' : Bytes} {l : Bytes} {w w1 : World} {p v v' : Value} (hT : TOk T n) (hp : p = .pointer none ∨ p = .pointer (some ⟨b, 0, none⟩))
    (hb : w.heap[b]? = some (.cells (p :: v :: xs).toArray T (0, 0))) (hown : w.ownsRow b 5 1 v l.length (cellsB l))
    (hown' : w1.ownsRow b 5 1 v' l'.length (cellsB l')) (hg : w.grownBy w1 v.ownBlock) (hat : v'.ownBlock = v.ownBlock ∨ ∃ g, v'.ownBlock = some g ∧ w.heap.size ≤ g) :
    Bw T xs b v' l' (w1.setCell ⟨b, 1, none⟩ v') ∧ Wr b v v' w (w1.setCell ⟨b, 1, none⟩ v') := by
  have hlt := lt_of_heap hb
  have hne0 := Lib.ownBlock_ne hown hb hT.ne
  have hb1 : w1.heap[b]? = some (.cells (p :: v :: xs).toArray T (0, 0)) := (hg.block b hlt (fun e => hne0 e.symm)).trans hb
  have hne := Lib.ownBlock_ne hown' hb1 hT.ne
  refine ⟨⟨p, hp, ?_, ?_⟩, ⟨hg.os, hg.tape, hg.output, by simpa [World.setCell] using hg.size, fun k hk hkb hkv => ?_, hat⟩⟩
  · simp [World.setCell, Array.getElem?_modify, hb1]
  · exact hown'.kept (row := some b) ⟨rfl, rfl, rfl, by simp [World.setCell], fun k _ hk => Below.heap_setCell _ _ _ _ (fun e => hk (by simp [e]))⟩ (Or.inr hne)
  · rw [Below.heap_setCell _ _ _ _ (fun e => hkb (by simpa using e)), hg.block k hk (fun e => hkv e.symm)]

theorem sizeBuilder : (Tryz.prog.info? 124).map (·.size) = some 2 := by kernel_rfl
theorem cellsByte : Tryz.prog.cellsOf 5 = 1 := by kernel_rfl

set_option maxHeartbeats 1000000 in
set_option maxRecDepth 100000 in
theorem copyCheck_used (b : Nat) (w : World) (h0 : w.cell? ⟨b, 0, none⟩ = some (.pointer (some ⟨b, 0, none⟩))) :
    Calls Tryz.prog 85 #[.pointer (some ⟨b, 0, none⟩)] w fun e w' => e = .returned (.tuple #[]) ∧ w = w' := by
  obtain ⟨j, hj, _⟩ := Option.map_eq_some_iff.1 sizeBuilder
  have hne := Lib.run_neq_ptr_same (P := Tryz.prog) w ⟨b, 0, none⟩ Tryz.underlying122 hj
  clear hj
  go_enter Tryz.func85, Tryz.ntmps85
  go_wp2_with fail
  go_end0
  exact ⟨rfl, rfl⟩

set_option maxHeartbeats 1000000 in
set_option maxRecDepth 100000 in
theorem copyCheck_fresh (b : Nat) (w : World) (h0 : w.cell? ⟨b, 0, none⟩ = some (.pointer none)) {T : TypeId} {n : Nat} (hT : TOk T n) (hn : 0 < n) (hsh : w.shape? b = some (T, n)) (hfz : w.frozen? ⟨b, 0, none⟩ = false) :
    Calls Tryz.prog 85 #[.pointer (some ⟨b, 0, none⟩)] w fun e w' => e = .returned (.tuple #[]) ∧ w' = w.setCell ⟨b, 0, none⟩ (.pointer (some ⟨b, 0, none⟩)) := by
  obtain ⟨j, hj, hjs⟩ := Option.map_eq_some_iff.1 sizeBuilder
  have h1 := Lib.run_to_unsafe (P := Tryz.prog) w ⟨b, 0, none⟩ Tryz.underlying122 Tryz.underlying293 hj (by rw [hjs]; decide) hsh hn
  have h2 := Lib.run_from_unsafe (P := Tryz.prog) w ⟨b, 0, none⟩ Tryz.underlying293 Tryz.underlying122 hj hsh hT.lies
  clear hj hjs
  go_enter Tryz.func85, Tryz.ntmps85
  go_wp2_with fail
  rw [run_callFunc_extern Tryz.func159 (by kernel_rfl) (by kernel_rfl) (by kernel_rfl) (e := Extern.AbiNoEscape.same) (by kernel_rfl)]
  rw [Lib.run_noEscape]
  simp only [Result.andThen]
  rw [Oper.upon_value]
  go_wp2_with fail
  go_end0
  exact ⟨rfl, rfl⟩

theorem copyCheck_any {T : TypeId} {xs : List Value} {b : Nat} {v : Value} {l : Bytes} {w : World} (h : Bw T xs b v l w) (hT : TOk T (xs.length + 2)) :
    Calls Tryz.prog 85 #[.pointer (some ⟨b, 0, none⟩)] w fun e w' => e = .returned (.tuple #[]) ∧ Bw T xs b v l w' ∧ Wr b v v w w' ∧ w'.heap.size = w.heap.size ∧
      w'.cell? ⟨b, 0, none⟩ = some (.pointer (some ⟨b, 0, none⟩)) := by
  have h' := h
  obtain ⟨p, hp, hb, hown⟩ := h
  have hcell : w.cell? ⟨b, 0, none⟩ = some p := by rw [Lib.cell_of_heap hb]; rfl
  have hne := Lib.ownBlock_ne hown hb hT.ne
  rcases hp with rfl | rfl
  · refine (copyCheck_fresh b w hcell hT (by omega) (by simp [World.shape?, hb]) (Lib.frozen_of_heap hb 0)).mono ?_
    rintro e w' ⟨rfl, rfl⟩
    have hb1 : (w.setCell ⟨b, 0, none⟩ (.pointer (some ⟨b, 0, none⟩))).heap[b]? = some (.cells (.pointer (some ⟨b, 0, none⟩) :: v :: xs).toArray T (0, 0)) := by
      simp [World.setCell, Array.getElem?_modify, hb]
    refine ⟨rfl, ⟨_, .inr rfl, hb1, ?_⟩, ⟨rfl, rfl, rfl, by simp [World.setCell], fun k _ hk _ => Below.heap_setCell _ _ _ _ hk, .inl rfl⟩, by simp [World.setCell], by rw [Lib.cell_of_heap hb1]; rfl⟩
    exact hown.kept (row := some b) ⟨rfl, rfl, rfl, by simp [World.setCell], fun k _ hk => Below.heap_setCell _ _ _ _ (fun e => hk (by simp [e]))⟩ (Or.inr hne)
  · refine (copyCheck_used b w hcell).mono ?_
    rintro e w' ⟨rfl, rfl⟩
    exact ⟨rfl, h', ⟨rfl, rfl, rfl, Nat.le_refl _, fun _ _ _ _ => rfl, .inl rfl⟩, rfl, hcell⟩

theorem wpList_byte1 (w : World) {ops : Array Oper} {rest : List Oper} {o : Oper} {a : Act} {Q : Exit → Act → World → Prop} (hg : o.guard = none) (s x : Operand)
    (ho : o.op = .call { callee := .builtin .append, args := #[s, x], argTypes := #[22, 22] })
    (base : Nat) (v : Value) (l : Bytes) (i : Int) (c : UInt8) (hi : i = (c.toNat : Int)) (hs : a.eval s = v) (hx : a.eval x = .slice (some ⟨w.heap.size, 0, none⟩) 1 1)
    (hown : w.ownsRow base 5 1 v l.length (cellsB l)) (hbase : base ≤ w.heap.size) (hlen : l.length ≤ 1000000000000)
    (h : ∀ v' w', w'.ownsRow base 5 1 v' (l ++ [c]).length (cellsB (l ++ [c])) → w.grownBy w' v.ownBlock → (v'.ownBlock = v.ownBlock ∨ ∃ g, v'.ownBlock = some g ∧ w.heap.size ≤ g) → wpList Tryz.prog ops Q rest (a.put o.dst v') w') :
    wpList Tryz.prog ops Q (o :: rest) a (w.alloc (.cells #[.int .u8 i] 5)) := by
  subst hi
  obtain ⟨i0, hi, hz0, hz1, hz2⟩ := info_parts infoByte
  refine wpList_append_own_at _ hg s x 22 ho base 5 i0 (.int .u8 0) 1 1 Tryz.underlying22 hi hz0 hz1 hz2 rfl (by decide) v l.length (cellsB l) hs (hown.alloc _)
    ⟨w.heap.size, 0, none⟩ 1 1 [.int .u8 c.toNat] hx rfl (cell_one_new _ _ _) ?_ (by simp only [maxLen]; omega) (by omega) (by simp; omega) ?_
  · intro u hu
    simp at hu; subst hu; rfl
  · intro v' w' h1 h2 _ hat
    have hgr : w.grownBy w' v.ownBlock := ⟨h2.os, h2.tape, h2.output, Nat.le_trans (by simp) h2.size, fun k hk hne => (h2.block k (by simp; omega) hne).trans (Below.heap_alloc _ _ _ hk)⟩
    refine h v' w' ?_ hgr ?_
    · simpa [cellsB] using h1
    · rcases hat with e | e
      · exact .inl e
      · exact .inr ⟨_, e, by simp⟩

set_option maxRecDepth 100000 in
theorem wpList_bytes (w : World) {ops : Array Oper} {rest : List Oper} {o : Oper} {a : Act} {Q : Exit → Act → World → Prop} (hg : o.guard = none) (s x : Operand)
    (ho : o.op = .call { callee := .builtin .append, args := #[s, x], argTypes := #[22, 9] })
    (base : Nat) (v : Value) (l m : Bytes) (hs : a.eval s = v) (hx : a.eval x = .string (bs m))
    (hown : w.ownsRow base 5 1 v l.length (cellsB l)) (hbase : base ≤ w.heap.size) (hlen : l.length + m.length ≤ 1000000000000)
    (h : ∀ v' w', w'.ownsRow base 5 1 v' (l ++ m).length (cellsB (l ++ m)) → w.grownBy w' v.ownBlock → (v'.ownBlock = v.ownBlock ∨ ∃ g, v'.ownBlock = some g ∧ w.heap.size ≤ g) → wpList Tryz.prog ops Q rest (a.put o.dst v') w') :
    wpList Tryz.prog ops Q (o :: rest) a w := by
  obtain ⟨i0, hi, hz0, hz1, hz2⟩ := info_parts infoByte
  refine wpList_plain hg fun K hK => ?_
  obtain ⟨v', w', hr, h2, h3, h4⟩ := Lib.run_append_own_string (P := Tryz.prog) w base 22 9 o.type 5 i0 Tryz.underlying22 Tryz.underlying9 hi hz0 hz1 hz2 v l.length (cellsB l) hown (bs m)
    (by rw [bs_size]; unfold maxLen; omega) (by rw [bs_size]; omega) hbase
  have hat : v'.ownBlock = v.ownBlock ∨ ∃ g, v'.ownBlock = some g ∧ w.heap.size ≤ g := by
    rcases hown.2 with ⟨hv, hz⟩ | ⟨g, cap, cur, hv, _, hg', hnc, hcm, hcs, htake⟩
    · rcases h2.2 with ⟨hv', _⟩ | ⟨g', cap', cur', hv', hb', _⟩
      · left; rw [hv, hv']
      · by_cases hm : m.length = 0
        · have := h4.2 ⟨hv, hm⟩
          rw [hv'] at this; cases this
        · right
          subst hv
          have hr2 := run_append_nil_string (P := Tryz.prog) w 22 9 o.type 5 i0 (.int .u8 0) Tryz.underlying22 Tryz.underlying9 hi hz0 (bs m) (by rw [bs_size]; omega) (by rw [bs_size]; omega) (by rw [bs_size, hz2]; omega)
          rw [hr2] at hr
          injection hr with e1 e2
          subst e1
          exact ⟨_, rfl, Nat.le_refl _⟩
    · subst hv
      by_cases hroom : l.length + (bs m).size ≤ cap
      · left
        have hr2 := Lib.run_append_room_string (P := Tryz.prog) w 22 9 o.type 5 i0 Tryz.underlying22 Tryz.underlying9 hi hz1 g l.length cap cur hg' (bs m) hroom (by omega)
        rw [hr2] at hr
        injection hr with e1 e2
        subst e1
        rfl
      · right
        have hr2 := Lib.run_append_grow_string (P := Tryz.prog) w 22 9 o.type 5 i0 (.int .u8 0) Tryz.underlying22 Tryz.underlying9 hi hz0 ⟨g, 0, none⟩ l.length cap (cellsB l) (by rw [hz1, cellsB_length]; omega) (hown.cells (g := g) rfl) (bs m) (by omega) (by rw [bs_size]; omega)
          (by rw [hz2]; exact growslice_fits (by omega) (by rw [bs_size]; omega))
        rw [hr2] at hr
        injection hr with e1 e2
        subst e1
        exact ⟨_, rfl, Nat.le_refl _⟩
  unfold Oper.wp execOp
  simp only [ho, resolve, invoke, builtin, Sem.run_bind, Sem.run_pure, Result.andThen_ok, List.map_toArray, List.map_cons, List.map_nil, hs, hx, hr]
  refine hK _ _ (h v' w' ?_ h3 hat)
  rw [cellsB_str, bs_size] at h2
  simpa [cellsB] using h2

theorem row_one {w : World} {base n : Nat} {v : Value} {xs : List Value} (h : w.ownsRow base 5 1 v n xs) : ∃ a c, v = .slice a n c := by
  rcases h.2 with ⟨hv, hz⟩ | ⟨g, cap, cur, hv, _⟩
  · exact ⟨none, 0, by rw [hv, hz]⟩
  · exact ⟨_, _, hv⟩

theorem Wr.trans {b : Nat} {v v'' : Value} {w w' w'' : World} (h : Wr b v v w w') (h2 : Wr b v v'' w' w'') : Wr b v v'' w w'' :=
  ⟨h2.os.trans h.os, h2.tape.trans h.tape, h2.output.trans h.output, Nat.le_trans h.size h2.size, fun k hk h1 h3 => (h2.block k (by have := h.size; omega) h1 h3).trans (h.block k hk h1 h3), by
    rcases h2.at_ with e | ⟨g, e, hg⟩
    · exact .inl e
    · exact .inr ⟨g, e, Nat.le_trans h.size hg⟩⟩
theorem freeze_wr {w : World} {b g n : Nat} {m c : Nat} (hne : b ≠ g) : Wr b (.slice (some ⟨g, 0, none⟩) m c) (.slice (some ⟨g, 0, none⟩) m c) w (w.drew.freeze ⟨g, 0, none⟩ n) ∧ (w.drew.freeze ⟨g, 0, none⟩ n).heap[b]? = w.heap[b]? := by
  unfold World.freeze
  split
  · exact ⟨⟨rfl, rfl, rfl, Nat.le_refl _, fun _ _ _ _ => rfl, .inl rfl⟩, rfl⟩
  · refine ⟨⟨rfl, rfl, rfl, by rw [Array.size_modify]; exact Nat.le_refl _, fun k hk h1 h2 => ?_, .inl rfl⟩, ?_⟩
    · simp only [Array.getElem?_modify]
      rw [if_neg (by intro e; exact h2 (by rw [← e]; rfl))]
      rfl
    · simp only [Array.getElem?_modify]
      rw [if_neg (by intro e; exact hne e.symm)]
      rfl

set_option maxHeartbeats 2000000 in
set_option maxRecDepth 100000 in
theorem writeByte_any {T : TypeId} {xs : List Value} {b : Nat} {v : Value} {l : Bytes} {w : World} (i : Int) (c : UInt8) (hi : i = (c.toNat : Int)) (h : Bw T xs b v l w) (hT : TOk T (xs.length + 2)) (hlen : l.length ≤ 1000000000000) :
    Calls Tryz.prog 210 #[.pointer (some ⟨b, 0, none⟩), .int .u8 i] w fun e w' => e = .returned .nilIface ∧ ∃ v', Bw T xs b v' (l ++ [c]) w' ∧ Wr b v v' w w' := by
  have HC := Lib.hid (copyCheck_any h hT)
  clear h
  have HI := Lib.hid hi
  clear hi
  go_enter Tryz.func210, Tryz.ntmps210
  go_wp2_with fail
  refine HC.out.mono ?_
  rintro e w1 ⟨rfl, hh, hbl, -, c0⟩
  clear HC
  obtain ⟨p, hp, hb, hown⟩ := hh
  obtain ⟨va, vc, rfl⟩ := row_one hown
  have c1 : w1.cell? ⟨b, 1, none⟩ = some (.slice va l.length vc) := by rw [Lib.cell_of_heap hb]; rfl
  have hlt := lt_of_heap hb
  have HB := Lib.hid hb
  have HO := Lib.hid hown
  have HP := Lib.hid hp
  have HL := Lib.hid hbl
  clear hb hown hp hbl
  go_wp2_with (at_builtin; refine wpList_byte1 _ rfl (.tmp 11) (.tmp 13) rfl b _ l _ c HI.out (by rfl) (by rfl) HO.out (by omega) (by omega) ?_; intro v' w2 hown' hgrow hat; obtain ⟨va', vc', rfl⟩ := row_one hown'; have HO' := Lib.hid hown'; have HG := Lib.hid hgrow; have HA := Lib.hid hat; clear hown' hgrow hat; have hb2 := (HG.out.block b hlt (fun e => Lib.ownBlock_ne HO.out HB.out hT.ne e.symm)).trans HB.out; have f1 := Lib.frozen_of_heap hb2 1; have d1 : w2.cell? ⟨b, 1, none⟩ = some (.slice va l.length vc) := (by rw [Lib.cell_of_heap hb2]; rfl); clear hb2)
  go_ret
  have hput := Bw.put (l' := l ++ [c]) hT HP.out HB.out HO.out (by have h' := HO'.out; rw [List.length_append] at h' ⊢; exact h') HG.out (by have h' := HA.out; rw [List.length_append] at h'; exact h')
  exact ⟨rfl, _, hput.1, HL.out.trans hput.2⟩

set_option maxHeartbeats 2000000 in
set_option maxRecDepth 100000 in
theorem writeString_any {T : TypeId} {xs : List Value} {b : Nat} {v : Value} {l : Bytes} {w : World} (m : Bytes) (h : Bw T xs b v l w) (hT : TOk T (xs.length + 2)) (hlen : l.length + m.length ≤ 1000000000000) :
    Calls Tryz.prog 39 #[.pointer (some ⟨b, 0, none⟩), .string (bs m)] w fun e w' => e = .returned (.tuple #[.int .i64 m.length, .nilIface]) ∧ ∃ v', Bw T xs b v' (l ++ m) w' ∧ Wr b v v' w w' := by
  have HC := Lib.hid (copyCheck_any h hT)
  clear h
  go_enter Tryz.func39, Tryz.ntmps39
  go_wp2_with fail
  refine HC.out.mono ?_
  rintro e w1 ⟨rfl, hh, hbl, -, c0⟩
  clear HC
  obtain ⟨p, hp, hb, hown⟩ := hh
  obtain ⟨va, vc, rfl⟩ := row_one hown
  have c1 : w1.cell? ⟨b, 1, none⟩ = some (.slice va l.length vc) := by rw [Lib.cell_of_heap hb]; rfl
  have hlt := lt_of_heap hb
  have HB := Lib.hid hb
  have HO := Lib.hid hown
  have HP := Lib.hid hp
  have HL := Lib.hid hbl
  clear hb hown hp hbl
  go_wp2_with (at_builtin; refine wpList_bytes _ rfl (.tmp 12) (.tmp 13) rfl b _ l m (by rfl) (by rfl) HO.out (by omega) (by omega) ?_; intro v' w2 hown' hgrow hat; obtain ⟨va', vc', rfl⟩ := row_one hown'; have HO' := Lib.hid hown'; have HG := Lib.hid hgrow; have HA := Lib.hid hat; clear hown' hgrow hat; have hb2 := (HG.out.block b hlt (fun e => Lib.ownBlock_ne HO.out HB.out hT.ne e.symm)).trans HB.out; have f1 := Lib.frozen_of_heap hb2 1; have d1 : w2.cell? ⟨b, 1, none⟩ = some (.slice va l.length vc) := (by rw [Lib.cell_of_heap hb2]; rfl); clear hb2)
  go_ret2
  have hput := Bw.put (l' := l ++ m) hT HP.out HB.out HO.out (by have h' := HO'.out; rw [List.length_append] at h' ⊢; exact h') HG.out (by have h' := HA.out; rw [List.length_append] at h'; exact h')
  exact ⟨rfl, _, hput.1, HL.out.trans hput.2⟩

set_option maxHeartbeats 1000000 in
set_option maxRecDepth 100000 in
theorem builderString_any {T : TypeId} {xs : List Value} {b n : Nat} {v : Value} {l : Bytes} {w : World} (h : Bw T xs b v l w) (hT : TOk T n) (h0 : l ≠ []) :
    Calls Tryz.prog 41 #[.pointer (some ⟨b, 0, none⟩)] w fun e w' => e = .returned (.string (bs l)) ∧ Wr b v v w w' ∧ w'.heap[b]? = w.heap[b]? := by
  have hns := h.neSelf hT
  obtain ⟨p, hp, hb, hown⟩ := h
  clear hp
  have hl0 : l.length ≠ 0 := by simpa using h0
  obtain ⟨g, cap, cur, rfl, hbg, hg, hnc, hcm, hcs, htake⟩ : ∃ g cap cur, v = .slice (some ⟨g, 0, none⟩) l.length cap ∧ b ≤ g ∧ w.heap[g]? = some (.cells cur 5 (0, 0)) ∧ l.length ≤ cap ∧ cap ≤ maxLen ∧ cur.size = cap * 1 ∧ cur.toList.take (l.length * 1) = cellsB l := by
    rcases hown.2 with ⟨_, hz⟩ | ⟨g, cap, cur, hv, r⟩
    · exact absurd hz hl0
    · exact ⟨g, cap, cur, hv, r⟩
  have c1 : w.drew.cell? ⟨b, 1, none⟩ = some (.slice (some ⟨g, 0, none⟩) l.length cap) := by
    have : w.drew.heap[b]? = some (.cells (p :: .slice (some ⟨g, 0, none⟩) l.length cap :: xs).toArray T (0, 0)) := hb
    rw [Lib.cell_of_heap this]; rfl
  have hSD : (Builtin.unsafeSliceData_ #[22] 189 #[.slice (some ⟨g, 0, none⟩) l.length cap]).run Tryz.prog w.drew = .ok (.pointer (some ⟨g, 0, none⟩)) w.drew :=
    Lib.run_unsafeSliceData_row _ _ _ _ _ _ (by omega)
  have hUS : (Builtin.unsafeString_ #[189, 3] 9 #[.pointer (some ⟨g, 0, none⟩), .int .i64 l.length]).run Tryz.prog w.drew = .ok (.string ⟨l.toArray⟩) (w.drew.freeze ⟨g, 0, none⟩ l.length) := by
    refine Lib.run_unsafeString_row w.drew 189 3 9 5 Tryz.underlying189 cellsByte g cur.size (by have hg' : w.drew.heap[g]? = some (.cells cur 5 (0, 0)) := hg; simp [World.shape?, hg']) l h0 (by omega) (by unfold maxLen at hcm; omega) ?_
    intro j x hx
    exact hown.cells (g := g) rfl j (.int .u8 x.toNat) (by simp [cellsB, hx])
  have mixed : Tryz.prog.follows .mixedOrders = true := by kernel_rfl
  have HF : Hid (Wr b (.slice (some ⟨g, 0, none⟩) l.length cap) (.slice (some ⟨g, 0, none⟩) l.length cap) w (w.drew.freeze ⟨g, 0, none⟩ l.length) ∧ (w.drew.freeze ⟨g, 0, none⟩ l.length).heap[b]? = w.heap[b]?) :=
    Lib.hid (freeze_wr (by intro e; subst e; exact hns rfl))
  clear hb hown hg htake hcs hnc hcm hbg h0 hl0 hns
  go_enter Tryz.func41, Tryz.ntmps41
  go_wp2_with fail
  go_region_o
  all_goals (go_wp2; go_ret; exact ⟨rfl, HF.out.1, HF.out.2⟩)

set_option maxHeartbeats 1000000 in
set_option maxRecDepth 100000 in
theorem builderString_none {T : TypeId} {xs : List Value} {b n : Nat} {v : Value} {w : World} (h : Bw T xs b v [] w) (hT : TOk T n) (hv : v.ownBlock = none) :
    Calls Tryz.prog 41 #[.pointer (some ⟨b, 0, none⟩)] w fun e w' => e = .returned (.string (bs [])) ∧ ∃ q, w' = w.drewN q := by
  obtain ⟨p, hp, hb, hown⟩ := h
  have hv' : v = .slice none 0 0 := by
    rcases hown.2 with ⟨h1, _⟩ | ⟨g, cap, cur, h1, _⟩
    · exact h1
    · rw [h1] at hv; cases hv
  subst hv'
  have c1 : w.cell? ⟨b, 1, none⟩ = some (.slice none 0 0) := by rw [Lib.cell_of_heap hb]; rfl
  have hSD : ∀ w : World, (Builtin.unsafeSliceData_ #[22] 189 #[.slice none 0 0]).run Tryz.prog w = .ok (.pointer none) w := fun w => Lib.run_unsafeSliceData_nil w _ _ _ _
  have hUS : ∀ w : World, (Builtin.unsafeString_ #[189, 3] 9 #[.pointer none, .int .i64 0]).run Tryz.prog w = .ok (.string .empty) w := fun w => Lib.run_unsafeString_none w _ _ _ _
  clear hb hown hp hv
  go_enter Tryz.func41, Tryz.ntmps41
  go_wp2_with fail
  go_quiet (fail)
  go_wp2_with fail
  go_ret
  exact ⟨rfl, _, rfl⟩

end Go.Proofs.YtheenlomlmbjaaaGreatDoor
