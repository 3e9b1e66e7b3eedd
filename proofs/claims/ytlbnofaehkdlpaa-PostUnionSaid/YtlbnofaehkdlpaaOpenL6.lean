/-
  An argument that is a slice of slices of ints, opened.
-/
import Derived.Test.YtlbnofaehkdlpaaOpen6
import Derived.Test.YtlbnofaehkdlpaaLawUnion
import Derived.Deep.Matrix
namespace Go.Proofs.Ytlbnofaehkdlpaa
open Go.ChangeShapes Go.WideShapes Go.ChangeAt Go.RowKit

theorem cellsIsS : Try.prog.cellsOf 22 = 1 := by kernel_rfl

/-- A row of ints that is read cell by cell. -/
theorem ints_of_cells {W : World} {ao : Option Addr} {l c : Nat} {zs : List Int} (h1 : l ≤ c) (h2 : c ≤ maxLen) (h3 : zs.length = c) (h4 : ao = none → c = 0)
    (h5 : ∀ a', ao = some a' → ∀ i, i < c → W.cell? (a'.add i) = some (.int .i64 (zs.getD i 0))) : Ints W (.slice ao l c) (zs.take l) := by
  have hlen : (zs.take l).length = l := by rw [List.length_take]; omega
  refine ⟨ao, c, by rw [hlen], by omega, by simp only [maxLen] at h2; omega, fun hne => ?_⟩
  have hp : 0 < l := by
    rcases Nat.eq_zero_or_pos l with e | e
    · subst e; simp at hne
    · exact e
  cases ao with
  | none => have := h4 rfl; omega
  | some x =>
    obtain ⟨b, off, spot⟩ := x
    have hc0 := h5 _ rfl 0 (by omega)
    have hspot : spot = none := by simpa [Addr.add] using World.cell?_spot hc0
    subst hspot
    refine ⟨b, off, rfl, ?_, fun i hi => ?_⟩
    · have := World.block_lt_of_cell? W _ hc0
      simpa [Addr.add] using this
    · have hi' : i < l := by omega
      have := h5 _ rfl i (by omega)
      rw [Addr.add_lit] at this
      rw [this]
      simp [List.getD, List.getElem?_take, hi']

theorem open_Lists {H : Type} {enc : TypeId × Value → H} {W : World} {base : Nat} {v : Value} {d : DataW H} {p : List MemPlace}
    (hok : Value.okWide Try.prog W .any base 27 v) (h : DataW.Trod enc Try.prog W 0 (fun _ => true) true 27 v d p) : ∃ ls, Lists W v ls := by
  obtain ⟨a0, len, cap, rfl⟩ := okWide_slice Try.underlying27 hok
  obtain ⟨fuel, hf⟩ := h
  rcases Deep.open_int_rows Try.underlying27 Try.underlying22 Try.underlying3 cellsIsS cellsIs hf with ⟨hcs, _⟩ | ⟨x, l, c, A, L, C, Z, hcs, _, hl, hm, _, hcell⟩
  · simp [Value.cells] at hcs
    obtain ⟨rfl, rfl, rfl⟩ := hcs
    exact ⟨[], none, 0, rfl, Nat.le_refl _, by omega, fun h => absurd rfl h⟩
  · simp [Value.cells] at hcs
    obtain ⟨rfl, rfl, rfl⟩ := hcs
    have hlen : ((List.range len).map fun r => (Z r).take (L r)).length = len := by simp
    refine ⟨(List.range len).map fun r => (Z r).take (L r), some x, cap, by rw [hlen], by omega, by simp only [maxLen] at hm; omega, fun hne => ?_⟩
    have hp : 0 < len := by
      rcases Nat.eq_zero_or_pos len with e | e
      · subst e; simp at hne
      · exact e
    obtain ⟨b, off, spot⟩ := x
    have hc0 := (hcell 0 (by omega)).1
    have hspot : spot = none := by simpa [Addr.add] using World.cell?_spot hc0
    subst hspot
    refine ⟨b, off, rfl, ?_, fun i hi => ?_⟩
    · have := World.block_lt_of_cell? W _ hc0
      simpa [Addr.add] using this
    · have hi' : i < len := by omega
      obtain ⟨g1, g2, g3, g4, _, g5, g6⟩ := hcell i (by omega)
      rw [Addr.add_lit] at g1
      refine ⟨_, g1, ?_⟩
      have e : ((List.range len).map fun r => (Z r).take (L r)).getD i [] = (Z i).take (L i) := by simp [List.getD, List.getElem?_range hi']
      rw [e]
      exact ints_of_cells g2 g3 g4 g5 (fun a' h i hi => (g6 a' h).2 i hi)
end Go.Proofs.Ytlbnofaehkdlpaa
