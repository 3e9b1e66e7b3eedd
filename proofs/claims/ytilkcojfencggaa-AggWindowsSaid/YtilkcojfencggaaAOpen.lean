/-
  Arguments opened: samples, a range.
-/
import Derived.Test.YtilkcojfencggaaASmp
import Derived.Test.YtilkcojfencggaaAPlain
import Derived.Deep.Slices
import Derived.ChangeSame
set_option linter.unusedSimpArgs false
set_option linter.unusedVariables false
namespace Go.Proofs.Ytilkcojfencggaa
open Go.ChangeShapes Go.WideShapes Go.ChangeAt Go.RowKit

theorem cellsSmp : Try.prog.cellsOf 37 = 2 := by kernel_rfl
theorem cellsInt : Try.prog.cellsOf 3 = 1 := by kernel_rfl
theorem cellsRng : Try.prog.cellsOf 24 = 2 := by kernel_rfl

section
variable {H : Type} {enc : TypeId × Value → H} {W : World}

theorem wf_int {a : Int} (h : (Lit.int .i64 a).wf = true) : -9223372036854775808 ≤ a ∧ a ≤ 9223372036854775807 := by
  have h' : IntKind.i64.min ≤ a ∧ a ≤ 9223372036854775807 := by simpa [Lit.wf] using h
  have e : IntKind.i64.min = -9223372036854775808 := by rfl
  omega

theorem wf_u8 {a : Int} (h : (Lit.int .u8 a).wf = true) : 0 ≤ a ∧ a ≤ 255 := by
  have h' : IntKind.u8.min ≤ a ∧ a ≤ IntKind.u8.max := by simpa [Lit.wf] using h
  have e : IntKind.u8.min = 0 := by rfl
  have e2 : IntKind.u8.max = 255 := by rfl
  omega
theorem wf_u16 {a : Int} (h : (Lit.int .u16 a).wf = true) : 0 ≤ a ∧ a ≤ 65535 := by
  have h' : IntKind.u16.min ≤ a ∧ a ≤ IntKind.u16.max := by simpa [Lit.wf] using h
  have e : IntKind.u16.min = 0 := by rfl
  have e2 : IntKind.u16.max = 65535 := by rfl
  omega
theorem open_rows {t e k fuel : Nat} {v : Value} {x : DataW H × List MemPlace} (ht : Try.prog.underlying t = some (.slice e)) (hk : Try.prog.cellsOf e = k) (hk0 : 0 < k)
    (h : DataW.trod enc Try.prog W 0 (fun _ => true) true fuel t [v] = some x) :
    v = .slice none 0 0 ∨ ∃ (a : Addr) (len cap n : Nat), v = .slice (some a) len cap ∧ len ≤ cap ∧ cap ≤ 9223372036854775807 ∧
      (∀ i, i < len → ∃ cs y, cs.length = k ∧ (∀ j, j < k → W.cell? (a.add (i * k + j)) = cs[j]?) ∧ DataW.trod enc Try.prog W 0 (fun _ => true) true n e cs = some y) ∧
      (0 < len → ∃ b off, a = ⟨b, off, none⟩ ∧ b < W.heap.size) := by
  rcases Deep.open_slice ht h with ⟨hcs, _⟩ | ⟨a, len, cap, m, n, D, Pl, hcs, _, hl, hm, hmm, _, hx⟩
  · simp at hcs; exact .inl hcs
  · simp at hcs
    have hmc : m = cap := by simpa using hmm
    have each : ∀ i, i < len → ∃ cs y, cs.length = k ∧ (∀ j, j < k → W.cell? (a.add (i * k + j)) = cs[j]?) ∧ DataW.trod enc Try.prog W 0 (fun _ => true) true n e cs = some y := by
      intro i hi
      obtain ⟨cs', h1, h2⟩ := hx i (by omega)
      rw [hk] at h1
      obtain ⟨_, hl', hat⟩ := World.cells?_some h1
      exact ⟨cs', _, hl', fun j hj => by rw [← Deep.add_add]; exact hat j hj, h2⟩
    refine .inr ⟨a, len, cap, n, hcs, hl, by simp only [maxLen] at hm; omega, each, fun hp => ?_⟩
    obtain ⟨cs, y, h1, h2, _⟩ := each 0 hp
    have hc0 := h2 0 hk0
    rw [List.getElem?_eq_getElem (by omega)] at hc0
    obtain ⟨b, off, spot⟩ := a
    have hspot : spot = none := by simpa [Addr.add] using World.cell?_spot hc0
    subst hspot
    refine ⟨b, off, rfl, ?_⟩
    have := World.block_lt_of_cell? W _ hc0
    simpa [Addr.add] using this

theorem open_smp {n : Nat} {cs : List Value} {y : DataW H × List MemPlace} (hl : cs.length = 2) (h : DataW.trod enc Try.prog W 0 (fun _ => true) true n 37 cs = some y) :
    ∃ s t : Int, cs = [.int .i64 s, .int .i64 t] ∧ (-9223372036854775808 ≤ s ∧ s ≤ 9223372036854775807) ∧ (-9223372036854775808 ≤ t ∧ t ≤ 9223372036854775807) := by
  match cs, hl with
  | [c0, c1], _ =>
    obtain ⟨y0, y1, m, _, _, h0, h1⟩ := trod_struct2 Try.underlying37 h
    obtain ⟨s, hs, _, w1⟩ := DataW.trod_int Try.underlying3 h0
    obtain ⟨t, ht, _, w2⟩ := DataW.trod_int Try.underlying3 h1
    rw [show Try.prog.cellsOf _ = 1 from cellsInt] at hs ht
    simp at hs ht
    exact ⟨s, t, by rw [hs, ht], wf_int w1, wf_int w2⟩

set_option maxRecDepth 100000 in
theorem open_Samples {base : Nat} {v : Value} {d : DataW H} {p : List MemPlace}
    (hok : Value.okWide Try.prog W .any base 22 v) (h : DataW.Trod enc Try.prog W 0 (fun _ => true) true 22 v d p) : ∃ ls, Samples W v ls ∧ WfS ls := by
  obtain ⟨a0, len0, cap0, rfl⟩ := okWide_slice Try.underlying22 hok
  obtain ⟨fuel, hf⟩ := h
  rcases open_rows Try.underlying22 cellsSmp (by decide) hf with e | ⟨a, len, cap, n, e, hl, hm, each, hp⟩
  · rw [e]; exact ⟨[], Samples.nil _, fun x hx => by cases hx⟩
  · rw [e]
    obtain ⟨F, hF⟩ := Deep.choose_lt (α := Smp) (n := len) (p := fun i y => (W.cell? (a.add (i * 2)) = some (.int .i64 y.1) ∧ W.cell? (a.add (i * 2 + 1)) = some (.int .i64 y.2)) ∧ (-9223372036854775808 ≤ y.1 ∧ y.1 ≤ 9223372036854775807) ∧ (-9223372036854775808 ≤ y.2 ∧ y.2 ≤ 9223372036854775807)) (fun i hi => by
      obtain ⟨cs, y, h1, h2, h3⟩ := each i hi
      obtain ⟨s, t, rfl, w1, w2⟩ := open_smp h1 h3
      exact ⟨(s, t), ⟨by simpa using h2 0 (by omega), by simpa using h2 1 (by omega)⟩, w1, w2⟩)
    have hlen : ((List.range len).map F).length = len := by simp
    refine ⟨(List.range len).map F, ⟨some a, cap, by rw [hlen], by omega, hm, fun hne => ?_⟩, fun x hx => ?_⟩
    · obtain ⟨b, off, rfl, hb⟩ := hp (by
        rcases Nat.eq_zero_or_pos len with e | e
        · subst e; simp at hne
        · exact e)
      refine ⟨b, off, rfl, hb, fun i hi => ?_⟩
      rw [hlen] at hi
      have e : ((List.range len).map F).getD i (0, 0) = F i := by simp [List.getD, List.getElem?_range hi]
      obtain ⟨⟨g1, g2⟩, _⟩ := hF i hi
      rw [Addr.add_lit] at g1 g2
      rw [e]
      exact ⟨g1, by rw [Nat.add_assoc]; exact g2⟩
    · obtain ⟨i, hi, rfl⟩ := List.mem_map.1 hx
      exact (hF i (List.mem_range.1 hi)).2

theorem open_Range {base : Nat} {v : Value} {d : DataW H} {p : List MemPlace}
    (hok : Value.okWide Try.prog W .any base 24 v) (h : DataW.Trod enc Try.prog W 0 (fun _ => true) true 24 v d p) : ∃ r : Int × Int, v = .agg #[.int .i64 r.1, .int .i64 r.2] := by
  obtain ⟨cs, rfl, hsz⟩ := okWide_struct Try.underlying24 hok
  rw [cellsRng] at hsz
  obtain ⟨fuel, hf⟩ := h
  obtain ⟨l⟩ := cs
  match l, hsz with
  | [c0, c1], _ =>
    obtain ⟨y0, y1, m, _, _, h0, h1⟩ := trod_struct2 Try.underlying24 hf
    obtain ⟨s, hs, _, _⟩ := DataW.trod_int Try.underlying3 h0
    obtain ⟨t, ht, _, _⟩ := DataW.trod_int Try.underlying3 h1
    rw [show Try.prog.cellsOf _ = 1 from cellsInt] at hs ht
    simp [Value.cells] at hs ht
    exact ⟨(s, t), by rw [hs, ht]⟩
end
end Go.Proofs.Ytilkcojfencggaa
