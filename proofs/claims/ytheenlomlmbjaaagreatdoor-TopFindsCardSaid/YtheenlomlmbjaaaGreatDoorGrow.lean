/-
  strings.Builder.Grow, of a fresh builder; strings.Join.
-/
import Derived.Test.YtheenlomlmbjaaaGreatDoorMatch
import Derived.Lib.MakeNoZero
import Derived.Laws.IdiomCopy
set_option linter.unusedSimpArgs false
set_option linter.unusedVariables false
namespace Go.Proofs.YtheenlomlmbjaaaGreatDoor.L4
open Go.RowKit

theorem sizeByte : (Tryz.prog.info? 5).map (·.size) = some 1 := by kernel_rfl
theorem Hb.ofAt {b : Nat} {w : World} (h : Lib.BuilderAt 124 5 b b (.pointer (some ⟨b, 0, none⟩)) [] w) : Hb b (fun _ => none) [] w := by
  obtain ⟨_, v, h1, h2, h3⟩ := h
  exact ⟨_, v, .inr rfl, h1, h2, fun k o h => by cases h⟩

set_option maxHeartbeats 2000000 in
set_option maxRecDepth 1000000 in
theorem grow_fresh (b n : Nat) (w : World) (hbk : w.heap[b]? = some (.cells #[.pointer (some ⟨b, 0, none⟩), .slice none 0 0] 124 (0, 0))) (hn : n ≤ 281474976710656) :
    Calls Tryz.prog 344 #[.pointer (some ⟨b, 0, none⟩), .int .i64 n] w fun e w' => e = .returned (.tuple #[]) ∧ (Lib.BuilderAt 124 5 b b (.pointer (some ⟨b, 0, none⟩)) [] w' ∧ Below b w w') := by
  obtain ⟨cs, hrun, hle, hmax⟩ := Lib.run_makeNoZero (P := Tryz.prog) w.drew #[3] 22 5 Tryz.underlying22 n hn
  have hw : IntKind.i64.wrap (IntKind.i64.wrap 0 + (n : Int)) = n := by
    rw [IntKind.wrap_i64, IntKind.wrap_i64]
    omega
  have hcall : (callFunc 366 #[.int .i64 (IntKind.i64.wrap (IntKind.i64.wrap 0 + (n : Int)))]).run Tryz.prog w.drew = .ok (.value (.slice (some ⟨w.drew.heap.size, 0, none⟩) n cs.size)) (w.drew.drew.drew.alloc (.cells cs 5)) := by
    rw [hw, run_callFunc_extern Tryz.func366 (by kernel_rfl) (by kernel_rfl) (by kernel_rfl) (e := Extern.BytealgMakeNoZero.makeNoZero #[3] #[22]) (by kernel_rfl), hrun]
    rfl
  have hlt := lt_of_heap hbk
  have c1 : w.drew.cell? ⟨b, 1, none⟩ = some (.slice none 0 0) := by
    have : w.drew.heap[b]? = _ := hbk
    rw [Lib.cell_of_heap this]; rfl
  have hb2 := (Lib.alloc_old w (.cells cs 5) b hlt).trans hbk
  have c2 : (w.alloc (.cells cs 5)).cell? ⟨b, 1, none⟩ = some (.slice none 0 0) := by rw [Lib.cell_of_heap hb2]; rfl
  have f2 : (w.alloc (.cells cs 5)).frozen? ⟨b, 1, none⟩ = false := Lib.frozen_of_heap hb2 1
  have hcopy : ∀ W : World, (Builtin.copy_ #[22, 22] 3 #[.slice (some ⟨w.heap.size, 0, none⟩) 0 cs.size, .slice none 0 0]).run Tryz.prog W = .ok (goInt 0) W :=
    fun W => run_copy_none W 22 22 3 5 _ _ 0 cs.size 0 0 Tryz.underlying22 sizeByte rfl
  have hfin := Lib.hid (Lib.grown_fresh (T := 124) (e := 5) (cs := cs) (Nat.le_refl b) hbk (by omega) (hmax (by unfold maxLen; omega)) (by decide))
  have mixed : Tryz.prog.follows .mixedOrders = true := by kernel_rfl
  clear hw hb2 hbk hrun hmax hlt
  go_enter Tryz.func344, Tryz.ntmps344
  go_wp2_with fail
  go_region_o
  all_goals (go_wp2; go_end0; exact ⟨rfl, hfin.out⟩)

end Go.Proofs.YtheenlomlmbjaaaGreatDoor.L4
