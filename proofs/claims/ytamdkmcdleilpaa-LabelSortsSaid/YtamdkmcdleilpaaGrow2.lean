/-
  strings.Builder.Grow, of a fresh builder.
-/
import Derived.Test.YtamdkmcdleilpaaGrow
import Derived.Deep.QuietTactic
import Derived.BigQuiet
namespace Go.Proofs.Ytamdkmcdleilpaa
open Go.RowKit

theorem copyCheck_nil {b : Nat} {w : World} (hbk : w.heap[b]? = some (.cells #[.pointer none, .slice none 0 0] 64 (0, 0))) :
    Calls Try.prog 76 #[.pointer (some ⟨b, 0, none⟩)] w fun e w' => e = .returned (.tuple #[]) ∧ w'.heap[b]? = some (.cells #[.pointer (some ⟨b, 0, none⟩), .slice none 0 0] 64 (0, 0)) ∧ Below b w w' := by
  refine (copyCheck_fresh b w (by rw [Lib.cell_of_heap hbk]; rfl) (by simp [World.shape?, hbk]) (Lib.frozen_of_heap hbk 0)).mono ?_
  rintro e w' ⟨rfl, rfl⟩
  exact ⟨rfl, by simp [World.setCell, Array.getElem?_modify, hbk], (Below.refl b w).setCell (p := ⟨b, 0, none⟩) (Nat.le_refl _) _⟩

set_option maxHeartbeats 2000000 in
set_option maxRecDepth 100000 in
theorem Grow_fresh (b n : Nat) (w : World) (hbk : w.heap[b]? = some (.cells #[.pointer none, .slice none 0 0] 64 (0, 0))) (hn : n ≤ 1000000000000) :
    Calls Try.prog 77 #[.pointer (some ⟨b, 0, none⟩), .int .i64 n] w fun e w' => e = .returned (.tuple #[]) ∧ Hb b (fun _ => none) [] w' ∧ Below b w w' := by
  have HC := Lib.hid (copyCheck_nil hbk)
  clear hbk
  go_enter Try.func77, Try.ntmps77
  go_wp2_with fail
  refine HC.out.mono ?_
  rintro e w1 ⟨rfl, hb1, hbl⟩
  clear HC
  have c1 : w1.cell? ⟨b, 1, none⟩ = some (.slice none 0 0) := by rw [Lib.cell_of_heap hb1]; rfl
  have HB := Lib.hid hb1
  have HL := Lib.hid hbl
  clear hb1 hbl
  by_cases h0 : n = 0
  · subst h0
    go_wp2_with fail
    go_quiet (fail)
    go_wp2_with fail
    go_end0
    exact ⟨rfl, ⟨_, _, .inr rfl, HB.out, World.ownsRow_nil _ _ _ _, fun k o h => by cases h⟩, ⟨HL.out.os, HL.out.tape, HL.out.output, HL.out.size, HL.out.block⟩⟩
  · have hlt : (0 : Int) < (n : Int) := by omega
    go_wp2_with fail
    go_quiet (fail)
    go_wp2_with fail
    refine (grow_fresh b n (w1.drewN _) (by exact HB.out) (by omega)).mono ?_
    rintro e w2 ⟨rfl, hat, hb2⟩
    have HA := Lib.hid hat
    have H2 := Lib.hid hb2
    clear hat hb2
    go_wp2_with fail
    go_end0
    exact ⟨rfl, Hb.ofAt HA.out, HL.out.trans ⟨H2.out.os, H2.out.tape, H2.out.output, H2.out.size, H2.out.block⟩⟩

end Go.Proofs.Ytamdkmcdleilpaa
