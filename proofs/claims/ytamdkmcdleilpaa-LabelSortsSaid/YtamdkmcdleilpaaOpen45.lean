/-
  Arguments opened: slices of labels, of texts, of matchers.
-/
import Derived.Test.YtamdkmcdleilpaaRefOne
import Derived.Deep.Slices
import Derived.Deep.Strs
import Derived.Lib.SmallJoins
import Derived.SliceStrings
namespace Go.Proofs.Ytamdkmcdleilpaa
open Go.ChangeShapes Go.WideShapes Go.ChangeAt Go.RowKit

theorem cellsStr : Try.prog.cellsOf 9 = 1 := by kernel_rfl
theorem cellsLab : Try.prog.cellsOf 43 = 2 := by kernel_rfl
theorem cellsInt : Try.prog.cellsOf 3 = 1 := by kernel_rfl
theorem cellsStrs : Try.prog.cellsOf 25 = 1 := by kernel_rfl
theorem cellsMat : Try.prog.cellsOf 27 = 4 := by kernel_rfl

section
variable {H : Type} {enc : TypeId × Value → H} {W : World}

theorem open_Strs' {fuel : Nat} {v : Value} {x : DataW H × List MemPlace} (h : DataW.trod enc Try.prog W 0 (fun _ => true) true fuel 25 [v] = some x) : ∃ ss, Strs W v ss := by
  rcases open_strings Try.underlying25 Try.underlying9 cellsStr h with ⟨hcs, _⟩ | ⟨x, l, c, ss, hcs, _, hl, hm, hz, _, hcell, hwz⟩
  · simp at hcs
    subst hcs
    exact ⟨[], Strs.nil _ _⟩
  · simp at hcs
    subst hcs
    have hz : ss.length = c := by simpa using hz
    have hlen : ((ss.take l).map fun s => s.data.toList).length = l := by simp; omega
    refine ⟨(ss.take l).map fun s => s.data.toList, some x, c, by rw [hlen], by omega, by simp only [maxLen] at hm; omega, fun hne => ?_⟩
    have hp : 0 < l := by
      rcases Nat.eq_zero_or_pos l with e | e
      · subst e; simp at hne
      · exact e
    obtain ⟨b, off, spot⟩ := x
    have hc0 := hcell 0 (by omega)
    have hspot : spot = none := by simpa [Addr.add] using World.cell?_spot hc0
    subst hspot
    refine ⟨b, off, rfl, ?_, fun i hi => ?_⟩
    · have := World.block_lt_of_cell? W _ hc0
      simpa [Addr.add] using this
    · rw [hlen] at hi
      have := hcell i (by omega)
      rw [Addr.add_lit] at this
      have e : ((ss.take l).map fun s => s.data.toList).getD i [] = (ss.getD i ByteArray.empty).data.toList := by
        simp [List.getD, List.getElem?_take, hi, List.getElem?_eq_getElem (show i < ss.length by omega)]
      rw [this, e, ← bs_of]

set_option maxRecDepth 100000 in
theorem open_Strs {base : Nat} {v : Value} {d : DataW H} {p : List MemPlace}
    (hok : Value.okWide Try.prog W .any base 25 v) (h : DataW.Trod enc Try.prog W 0 (fun _ => true) true 25 v d p) : ∃ ss, Strs W v ss := by
  obtain ⟨a0, len, cap, rfl⟩ := okWide_slice Try.underlying25 hok
  obtain ⟨fuel, hf⟩ := h
  exact open_Strs' hf

/-- A slice of structs, cell by cell. -/
theorem open_rows {t e k fuel : Nat} {v : Value} {x : DataW H × List MemPlace} (ht : Try.prog.underlying t = some (.slice e)) (hk : Try.prog.cellsOf e = k) (hk0 : 0 < k)
    (h : DataW.trod enc Try.prog W 0 (fun _ => true) true fuel t [v] = some x) :
    v = .slice none 0 0 ∨ ∃ (a : Addr) (len cap n : Nat), v = .slice (some a) len cap ∧ len ≤ cap ∧ cap ≤ 9223372036854775807 ∧
      (∀ i, i < len → ∃ cs y, cs.length = k ∧ (∀ j, j < k → W.cell? (a.add (i * k + j)) = cs[j]?) ∧ DataW.trod enc Try.prog W 0 (fun _ => true) true n e cs = some y) ∧
      (0 < len → ∃ b off, a = ⟨b, off, none⟩ ∧ b < W.heap.size) := by
  rcases Deep.open_slice ht h with ⟨hcs, _⟩ | ⟨a, len, cap, m, n, D, Pl, hcs, _, hl, hm, hmm, _, hx⟩
  · simp at hcs; exact .inl hcs
  · simp at hcs
    have hmc : m = cap := by simpa using hmm
    have each : ∀ i, i < len → ∃ cs y, cs.length = k ∧ (∀ j, j < k → W.cell? (a.add (i * k + j)) = cs[j]?) ∧ DataW.trod enc Try.prog W 0 (fun _ => true) true n e cs = some y := by
      intro i hi
      obtain ⟨cs', h1, h2⟩ := hx i (by omega)
      rw [hk] at h1
      obtain ⟨_, hl', hat⟩ := World.cells?_some h1
      exact ⟨cs', _, hl', fun j hj => by rw [← Deep.add_add]; exact hat j hj, h2⟩
    refine .inr ⟨a, len, cap, n, hcs, hl, by simp only [maxLen] at hm; omega, each, fun hp => ?_⟩
    obtain ⟨cs, y, h1, h2, _⟩ := each 0 hp
    have hc0 := h2 0 hk0
    rw [List.getElem?_eq_getElem (by omega)] at hc0
    obtain ⟨b, off, spot⟩ := a
    have hspot : spot = none := by simpa [Addr.add] using World.cell?_spot hc0
    subst hspot
    refine ⟨b, off, rfl, ?_⟩
    have := World.block_lt_of_cell? W _ hc0
    simpa [Addr.add] using this

theorem open_lab {n : Nat} {cs : List Value} {y : DataW H × List MemPlace} (hl : cs.length = 2) (h : DataW.trod enc Try.prog W 0 (fun _ => true) true n 43 cs = some y) :
    ∃ s t : ByteArray, cs = [.string s, .string t] := by
  match cs, hl with
  | [c0, c1], _ =>
    obtain ⟨y0, y1, m, _, _, h0, h1⟩ := trod_struct2 Try.underlying43 h
    obtain ⟨s, hs, _, _⟩ := DataW.trod_string Try.underlying9 h0
    obtain ⟨t, ht, _, _⟩ := DataW.trod_string Try.underlying9 h1
    rw [show Try.prog.cellsOf _ = 1 from cellsStr] at hs ht
    simp at hs ht
    exact ⟨s, t, by rw [hs, ht]⟩

set_option maxRecDepth 100000 in
theorem open_Labels {base : Nat} {v : Value} {d : DataW H} {p : List MemPlace}
    (hok : Value.okWide Try.prog W .any base 22 v) (h : DataW.Trod enc Try.prog W 0 (fun _ => true) true 22 v d p) : ∃ ls, Labels W v ls := by
  obtain ⟨a0, len0, cap0, rfl⟩ := okWide_slice Try.underlying22 hok
  obtain ⟨fuel, hf⟩ := h
  rcases open_rows Try.underlying22 cellsLab (by decide) hf with e | ⟨a, len, cap, n, e, hl, hm, each, hp⟩
  · rw [e]; exact ⟨[], none, 0, rfl, Nat.le_refl _, by omega, fun h => absurd rfl h⟩
  · rw [e]
    obtain ⟨F, hF⟩ := Deep.choose_lt (α := Lab) (n := len) (p := fun i y => W.cell? (a.add (i * 2)) = some (.string (bs y.1)) ∧ W.cell? (a.add (i * 2 + 1)) = some (.string (bs y.2))) (fun i hi => by
      obtain ⟨cs, y, h1, h2, h3⟩ := each i hi
      obtain ⟨s, t, rfl⟩ := open_lab h1 h3
      exact ⟨(s.data.toList, t.data.toList), by rw [← bs_of]; simpa using h2 0 (by omega), by rw [← bs_of]; simpa using h2 1 (by omega)⟩)
    have hlen : ((List.range len).map F).length = len := by simp
    refine ⟨(List.range len).map F, some a, cap, by rw [hlen], by omega, hm, fun hne => ?_⟩
    obtain ⟨b, off, rfl, hb⟩ := hp (by
      rcases Nat.eq_zero_or_pos len with e | e
      · subst e; simp at hne
      · exact e)
    refine ⟨b, off, rfl, hb, fun i hi => ?_⟩
    rw [hlen] at hi
    have e : ((List.range len).map F).getD i ([], []) = F i := by simp [List.getD, List.getElem?_range hi]
    obtain ⟨g1, g2⟩ := hF i hi
    rw [Addr.add_lit] at g1 g2
    rw [e]
    exact ⟨g1, by rw [Nat.add_assoc]; exact g2⟩

instance : Inhabited Mat := ⟨noMat⟩
theorem open_mat {n : Nat} {cs : List Value} {y : DataW H × List MemPlace} (hl : cs.length = 4) (h : DataW.trod enc Try.prog W 0 (fun _ => true) true n 27 cs = some y) :
    ∃ (k : Int) (s t : ByteArray) (u : Value) (ss : List Bytes), cs = [.int .i64 k, .string s, .string t, u] ∧ Strs W u ss := by
  match cs, hl with
  | [c0, c1, c2, c3], _ =>
    obtain ⟨y0, y1, y2, y3, m, _, _, h0, h1, h2, h3⟩ := Joins.trod_struct4 Try.underlying27 h
    obtain ⟨k, hk, _, _⟩ := DataW.trod_int Try.underlying3 h0
    obtain ⟨s, hs, _, _⟩ := DataW.trod_string Try.underlying9 h1
    obtain ⟨t, ht, _, _⟩ := DataW.trod_string Try.underlying9 h2
    rw [show Try.prog.cellsOf _ = 1 from cellsInt] at hk
    rw [show Try.prog.cellsOf _ = 1 from cellsStr] at hs ht
    rw [show Try.prog.cellsOf _ = 1 from cellsStrs] at h3
    simp at hk hs ht h3
    obtain ⟨ss, hss⟩ := open_Strs' h3
    exact ⟨k, s, t, c3, ss, by rw [hk, hs, ht], hss⟩

set_option maxRecDepth 100000 in
theorem open_Matchers {base : Nat} {v : Value} {d : DataW H} {p : List MemPlace}
    (hok : Value.okWide Try.prog W .any base 35 v) (h : DataW.Trod enc Try.prog W 0 (fun _ => true) true 35 v d p) : ∃ ms, Matchers W v ms := by
  obtain ⟨a0, len0, cap0, rfl⟩ := okWide_slice Try.underlying35 hok
  obtain ⟨fuel, hf⟩ := h
  rcases open_rows Try.underlying35 cellsMat (by decide) hf with e | ⟨a, len, cap, n, e, hl, hm, each, hp⟩
  · rw [e]; exact ⟨[], Matchers.nil _⟩
  · rw [e]
    obtain ⟨F, hF⟩ := Deep.choose_lt (α := Mat) (n := len) (p := fun i m => W.cell? (a.add (i * 4)) = some (.int .i64 m.k) ∧ W.cell? (a.add (i * 4 + 1)) = some (.string (bs m.n)) ∧ W.cell? (a.add (i * 4 + 2)) = some (.string (bs m.x)) ∧
        ∃ u, W.cell? (a.add (i * 4 + 3)) = some u ∧ Strs W u m.ss) (fun i hi => by
      obtain ⟨cs, y, h1, h2, h3⟩ := each i hi
      obtain ⟨k, s, t, u, ss, rfl, hss⟩ := open_mat h1 h3
      exact ⟨⟨k, s.data.toList, t.data.toList, ss⟩, by simpa using h2 0 (by omega), by rw [← bs_of]; simpa using h2 1 (by omega), by rw [← bs_of]; simpa using h2 2 (by omega), u, by simpa using h2 3 (by omega), hss⟩)
    have hlen : ((List.range len).map F).length = len := by simp
    refine ⟨(List.range len).map F, some a, cap, by rw [hlen], by omega, hm, fun hne => ?_⟩
    obtain ⟨b, off, rfl, hb⟩ := hp (by
      rcases Nat.eq_zero_or_pos len with e | e
      · subst e; simp at hne
      · exact e)
    refine ⟨b, off, rfl, hb, fun i hi => ?_⟩
    rw [hlen] at hi
    have e : ((List.range len).map F).getD i noMat = F i := by simp [List.getD, List.getElem?_range hi]
    obtain ⟨g1, g2, g3, u, g4, g5⟩ := hF i hi
    rw [Addr.add_lit] at g1 g2 g3 g4
    rw [e]
    exact ⟨g1, by rw [Nat.add_assoc]; exact g2, by rw [Nat.add_assoc]; exact g3, u, by rw [Nat.add_assoc]; exact g4, g5⟩
end
end Go.Proofs.Ytamdkmcdleilpaa
