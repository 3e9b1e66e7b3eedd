/-
  The law TopFinds at its arguments, as they come in; the table of frame.steps, as the row's condition lays it.
-/
import Derived.Test.YtheenlomlmbjaaaGreatDoorHLaw
import Derived.ChangeSame
import Derived.LaidMore
import Derived.Lib.LaidTab
import Derived.Stop.LaidErr
import Derived.Stop.Joined
import Derived.MakeChecks
set_option linter.unusedSimpArgs false
set_option linter.unusedVariables false
namespace Go.Proofs.YtheenlomlmbjaaaGreatDoor
open Go.ChangeShapes Go.WideShapes Go.ChangeAt Go.RowKit

theorem wf_u8 {a : Int} (h : (Lit.int .u8 a).wf = true) : 0 ≤ a ∧ a ≤ 255 := by
  have h' : IntKind.u8.min ≤ a ∧ a ≤ IntKind.u8.max := by simpa [Lit.wf] using h
  have e : IntKind.u8.min = 0 := by rfl
  have e2 : IntKind.u8.max = 255 := by rfl
  omega
theorem cellsU8 : Tryz.prog.cellsOf 5 = 1 := by kernel_rfl
set_option maxRecDepth 100000 in
theorem open_Bytes {H : Type} {enc : TypeId × Value → H} {W : World} {base : Nat} {v : Value} {d : DataW H} {p : List MemPlace}
    (hok : Value.okWide Tryz.prog W .any base 22 v) (h : DataW.Trod enc Tryz.prog W 0 (fun _ => true) true 22 v d p) : ∃ n, bytesRow' W v n := by
  obtain ⟨a0, len, cap, rfl⟩ := okWide_slice Tryz.underlying22 hok
  obtain ⟨fuel, hf⟩ := h
  rcases open_ints Tryz.underlying22 Tryz.underlying5 cellsU8 hf with ⟨hcs, _⟩ | ⟨x, l, c, zs, hcs, _, hl, hm, hz, _, hcell, hwz⟩
  · simp [Value.cells] at hcs
    obtain ⟨rfl, rfl, rfl⟩ := hcs
    exact ⟨0, none, 0, rfl, Nat.le_refl _, by omega, fun h => absurd h (by omega)⟩
  · simp [Value.cells] at hcs
    obtain ⟨rfl, rfl, rfl⟩ := hcs
    have hz : zs.length = cap := by simpa using hz
    refine ⟨len, some x, cap, rfl, by omega, by simp only [maxLen] at hm; omega, fun hp => ?_⟩
    obtain ⟨b, off, spot⟩ := x
    have hc0 := hcell 0 (by omega)
    have hspot : spot = none := by simpa [Addr.add] using World.cell?_spot hc0
    subst hspot
    refine ⟨b, off, rfl, ?_, fun i hi => ?_⟩
    · have := World.block_lt_of_cell? W _ hc0
      simpa [Addr.add] using this
    · have h1 := hcell i (by omega)
      rw [Addr.add_lit] at h1
      have hmem : zs.getD i 0 ∈ zs := by
        rw [List.getD_eq_getElem?_getD, List.getElem?_eq_getElem (show i < zs.length by omega)]
        exact List.getElem_mem _
      obtain ⟨z0, z1⟩ := wf_u8 (hwz _ hmem)
      refine ⟨(zs.getD i 0).toNat, by omega, ?_⟩
      rw [h1, Int.toNat_of_nonneg z0]
def stepsN : String := ((Rows.topFindsRow.laid.map (·.1))[3]?).getD ""
theorem gSteps : Tryz.prog.globalNamed stepsN = some 0 := by kernel_rfl
theorem tSteps : (Tryz.prog.globals[0]?).map (·.type) = some 328 := by kernel_rfl
theorem cSteps : Tryz.prog.cellsOf 328 = 16 := by kernel_rfl
theorem cU16 : Tryz.prog.cellsOf 327 = 1 := by kernel_rfl
def stepsZ : List Int := [0, 4129, 8258, 12387, 16516, 20645, 24774, 28903, 33032, 37161, 41290, 45419, 49548, 53677, 57806, 61935]
theorem steps_of_laid {W : World} (h : laidMetH Tryz.prog Rows.topFindsRow.laid W) : StepsOk W 0 ∧ 0 < W.heap.size := by
  rw [MakeChecks.laidMetH_plain _ _ _ (by kernel_rfl)] at h
  have h3 := h.tail.tail.tail
  have hT := Lib.tabIs_of_head (name := stepsN) (k := .u16) (zs := stepsZ) gSteps tSteps Tryz.underlying328 Tryz.underlying327 cU16 cSteps h3
  have hc : ∀ i, i < 16 → W.cell? ⟨0, i, none⟩ = some (.int .u16 (stepsZ.getD i 0)) := fun i hi => hT.cell gSteps i hi
  refine ⟨fun i hi => ⟨(stepsZ.getD i 0).toNat, ?_, ?_⟩, World.block_lt_of_cell? W _ (hc 0 (by omega))⟩
  · have : ∀ i, i < 16 → (stepsZ.getD i 0).toNat < 65536 := by decide
    exact this i hi
  · have h0 : ∀ i, i < 16 → 0 ≤ stepsZ.getD i 0 := by decide
    rw [hc i hi, Int.toNat_of_nonneg (h0 i hi)]
theorem door_met (os : Os) (args : Array Value) : laidMetH Tryz.prog Rows.topFindsRow.laid ((World.doorLaid Tryz.prog 400 os).forCall (fun _ _ => 0) ⟨#[], args, []⟩).memory :=
  laidMetH_of_parts3 (fuel := 8) (laidMet_of_run' 8 (by kernel_rfl) (by kernel_rfl)) (by kernel_rfl) (by kernel_rfl)

end Go.Proofs.YtheenlomlmbjaaaGreatDoor
