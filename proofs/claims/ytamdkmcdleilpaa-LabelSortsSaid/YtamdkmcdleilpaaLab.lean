/-
  Slices of labels; Get, both ways.
-/
import Derived.Test.YtamdkmcdleilpaaStr
namespace Go.Proofs.Ytamdkmcdleilpaa
open Go.RowKit

/-- A label: its name, its value. -/
abbrev Lab := Bytes × Bytes

def Labels (w : World) (v : Value) (ls : List Lab) : Prop :=
  ∃ a cap, v = .slice a ls.length cap ∧ ls.length ≤ cap ∧ cap ≤ 9223372036854775807 ∧
    (ls ≠ [] → ∃ b off, a = some ⟨b, off, none⟩ ∧ b < w.heap.size ∧ ∀ i, i < ls.length →
      w.cell? ⟨b, off + i * 2, none⟩ = some (.string (bs (ls.getD i ([], [])).1)) ∧ w.cell? ⟨b, off + i * 2 + 1, none⟩ = some (.string (bs (ls.getD i ([], [])).2)))

theorem Labels.below {w w' : World} {v : Value} {ls : List Lab} (h : Labels w v ls) (hb : Below w.heap.size w w') : Labels w' v ls := by
  obtain ⟨a, cap, hv, h1, h2, h3⟩ := h
  refine ⟨a, cap, hv, h1, h2, fun hx => ?_⟩
  obtain ⟨b, off, ha, hlt, hc⟩ := h3 hx
  refine ⟨b, off, ha, Nat.lt_of_lt_of_le hlt hb.size, fun i hi => ?_⟩
  exact ⟨(hb.cell (p := ⟨b, off + i * 2, none⟩) hlt).trans (hc i hi).1, (hb.cell (p := ⟨b, off + i * 2 + 1, none⟩) hlt).trans (hc i hi).2⟩

/-- The i-th label's cells. -/
theorem Labels.at_ {w : World} {a : Option Addr} {n cap : Nat} {ls : List Lab} (h : Labels w (.slice a n cap) ls) {i : Nat} (hi : i < ls.length) :
    ∃ b off, a = some ⟨b, off, none⟩ ∧ b < w.heap.size ∧ w.cell? ⟨b, off + i * 2, none⟩ = some (.string (bs (ls.getD i ([], [])).1)) ∧ w.cell? ⟨b, off + i * 2 + 1, none⟩ = some (.string (bs (ls.getD i ([], [])).2)) := by
  obtain ⟨a', cap', hv, h1, h2, h3⟩ := h
  obtain ⟨b, off, ha, hlt, hc⟩ := h3 (by intro e; subst e; simp at hi)
  simp only [Value.slice.injEq] at hv
  exact ⟨b, off, by rw [hv.1, ha], hlt, (hc i hi).1, (hc i hi).2⟩

/-- The first value of a name; nothing: the empty text. -/
def getL (ls : List Lab) (name : Bytes) : Bytes :=
  match ls with
  | [] => []
  | x :: r => if x.1 == name then x.2 else getL r name
theorem drop_lab {ls : List Lab} {k : Nat} (h : k < ls.length) : ls.drop k = ls.getD k ([], []) :: ls.drop (k + 1) := by
  rw [List.drop_eq_getElem_cons h]; simp [List.getD, List.getElem?_eq_getElem h]
theorem getL_hit {ls : List Lab} {name : Bytes} {k : Nat} (h : k < ls.length) (e : ((ls.getD k ([], [])).1 == name) = true) : getL (ls.drop k) name = (ls.getD k ([], [])).2 := by
  rw [drop_lab h]; simp only [getL]; rw [if_pos e]
theorem getL_miss {ls : List Lab} {name : Bytes} {k : Nat} (h : k < ls.length) (e : ((ls.getD k ([], [])).1 == name) = false) : getL (ls.drop k) name = getL (ls.drop (k + 1)) name := by
  rw [drop_lab h]; simp only [getL]; rw [if_neg (by rw [e]; exact Bool.false_ne_true)]
theorem getL_end {ls : List Lab} {name : Bytes} {k : Nat} (h : ls.length ≤ k) : getL (ls.drop k) name = [] := by rw [List.drop_eq_nil_of_le h]; rfl

set_option maxRecDepth 100000 in
set_option maxHeartbeats 400000 in
theorem refGet_any (v : Value) (ls : List Lab) (name : Bytes) (w : World) (hv : Labels w v ls) :
    Calls Try.prog 18 #[v, .string (bs name)] w fun e w' => e = .returned (.string (bs (getL ls name))) ∧ w = w' := by
  have HV := Lib.hid hv
  obtain ⟨a, cap, rfl, h1, h2, -⟩ := hv
  go_enter Try.func18, Try.ntmps18
  go_wp2_with fail
  go_loop [5] (fun i => ∃ k : Nat, k ≤ ls.length ∧ i = .int .i64 k ∧ getL (ls.drop k) name = getL ls name)
    (fun i => ls.length - (intOf i).toNat)
  case atStart => exact ⟨0, Nat.zero_le _, rfl, rfl⟩
  case round =>
    obtain ⟨k, hk, rfl, hg⟩ := hrel
    have HG := Lib.hid hg
    clear hg
    by_cases hlt : k < ls.length
    · obtain ⟨b, off, rfl, hb, hc1, hc2⟩ := HV.out.at_ hlt
      have HH := Lib.hid (fun e => getL_hit (name := name) hlt e)
      have HM := Lib.hid (fun e => getL_miss (name := name) hlt e)
      generalize (ls.getD k ([], [])).1 = n at *
      generalize (ls.getD k ([], [])).2 = x at *
      cases e : (n == name) with
      | true =>
        have HE := Lib.hid (HG.out.symm.trans (HH.out e))
        go_wp2_with fail
        go_ret
        exact ⟨by rw [HE.out]; rfl, rfl⟩
      | false =>
        have HE := Lib.hid ((HM.out e).symm.trans HG.out)
        go_wp2_with fail
        go_round
        case rel => exact ⟨k + 1, by omega, by go_num, HE.out⟩
        case measure => simp [intOf]; omega
    · have HE := Lib.hid (HG.out.symm.trans (getL_end (name := name) (by omega)))
      go_wp2_with fail
      go_ret
      exact ⟨by rw [HE.out]; rfl, rfl⟩

set_option maxRecDepth 100000 in
set_option maxHeartbeats 400000 in
theorem get_any (v : Value) (ls : List Lab) (name : Bytes) (w : World) (hv : Labels w v ls) :
    Calls Try.prog 34 #[v, .string (bs name)] w fun e w' => e = .returned (.string (bs (getL ls name))) ∧ Below w.heap.size w w' := by
  have HV := Lib.hid hv
  obtain ⟨a, cap, rfl, h1, h2, -⟩ := hv
  go_enter Try.func34, Try.ntmps34
  go_wp2_with fail
  go_loopw [9] (fun i wr => ∃ k : Nat, k ≤ ls.length ∧ i = .int .i64 k ∧ getL (ls.drop k) name = getL ls name ∧ Below w.heap.size w wr)
    (fun i _ => ls.length - (intOf i).toNat)
  case atStart => exact ⟨0, Nat.zero_le _, rfl, rfl, Below.refl _ _⟩
  case round =>
    obtain ⟨k, hk, rfl, hg, hbel⟩ := hrel
    have HG := Lib.hid hg
    clear hg
    by_cases hlt : k < ls.length
    · obtain ⟨b, off, rfl, hb, hc1, hc2⟩ := (HV.out.below hbel).at_ hlt
      have HH := Lib.hid (fun e => getL_hit (name := name) hlt e)
      have HM := Lib.hid (fun e => getL_miss (name := name) hlt e)
      generalize (ls.getD k ([], [])).1 = n at *
      generalize (ls.getD k ([], [])).2 = x at *
      cases e : (n == name) with
      | true =>
        have HE := Lib.hid (HG.out.symm.trans (HH.out e))
        go_wp2_with fail
        go_ret
        exact ⟨by rw [HE.out]; rfl, hbel.alloc hbel.size _⟩
      | false =>
        have HE := Lib.hid ((HM.out e).symm.trans HG.out)
        go_wp2_with fail
        go_roundw
        case rel => exact ⟨k + 1, by omega, by go_num, HE.out, hbel.alloc hbel.size _⟩
        case measure => simp [intOf]; omega
    · have HE := Lib.hid (HG.out.symm.trans (getL_end (name := name) (by omega)))
      go_wp2_with fail
      go_ret
      exact ⟨by rw [HE.out]; rfl, hbel⟩

end Go.Proofs.Ytamdkmcdleilpaa
