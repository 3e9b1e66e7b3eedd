/-
  slices.Clone, slices.SortStableFunc, label.Sort of labels.
-/
import Derived.Test.YtamdkmcdleilpaaStable
import Derived.Maps.AppendAt
import Derived.Lib.SliceRun
namespace Go.Proofs.Ytamdkmcdleilpaa
open Go.RowKit

theorem labels_news {w : World} {a : Addr} {n cap : Nat} {ls : List Lab} (h : Labels w (.slice (some a) n cap) ls) : ∀ j u, (ls.flatMap encLab)[j]? = some u → w.cell? (a.add j) = some u := by
  intro j u hj
  have hlen := flat_len (enc := encLab) (k := 2) (fun _ => rfl) ls
  have hjl : j < ls.length * 2 := by
    rcases Nat.lt_or_ge j (ls.length * 2) with h' | h'
    · exact h'
    · rw [List.getElem?_eq_none (by omega)] at hj; cases hj
  obtain ⟨a', cap', hv, h1, h2, h3⟩ := h
  obtain ⟨b, off, ha, hb, hc⟩ := h3 (by rintro rfl; simp at hjl)
  cases hv
  simp only [Option.some.injEq] at ha
  subst ha
  obtain ⟨h1, h2⟩ := hc (j / 2) (by omega)
  have e : j / 2 * 2 + j % 2 = j := by omega
  rw [Addr.add_lit]
  have hf := flat_at (enc := encLab) (k := 2) (fun _ => rfl) ([], []) ls (j / 2) (j % 2) (by omega) (by omega)
  rw [e] at hf
  rw [hf] at hj
  have : j % 2 = 0 ∨ j % 2 = 1 := by omega
  rcases this with e2 | e2
  · rw [e2] at hj e
    rw [show off + j = off + j / 2 * 2 by omega, h1]; exact hj
  · rw [e2] at hj e
    rw [show off + j = off + j / 2 * 2 + 1 by omega, h2]; exact hj
theorem encLab_one {ls : List Lab} : ∀ u ∈ ls.flatMap encLab, u.oneCell' = true := by
  intro u hu
  obtain ⟨x, _, hx⟩ := List.mem_flatMap.1 hu
  simp only [encLab, List.mem_cons, List.not_mem_nil, or_false] at hx
  rcases hx with rfl | rfl <;> rfl

set_option maxRecDepth 100000 in
set_option maxHeartbeats 1000000 in
theorem cloneL_any (v : Value) (ls : List Lab) (w : World) (hv : Labels w v ls) (hl : ls.length ≤ 1000000) :
    Calls Try.prog 59 #[v] w fun e w' => ∃ u, e = .returned u ∧ OwnR 43 2 encLab w' w.heap.size u ls ∧ Below w.heap.size w w' := by
  have HV := Lib.hid hv
  obtain ⟨a, cap, rfl, h1, h2, h3⟩ := hv
  cases a with
  | none =>
    have hn : ls = [] := by
      cases ls with
      | nil => rfl
      | cons x r => obtain ⟨b, off, hx, _⟩ := h3 (by simp); cases hx
    subst hn
    have hq : ∀ w', (binOp .eql 22 (.slice none 0 cap) (.slice none 0 0)).run Try.prog w' = .ok (.bool true) w' := fun w' => Lib.run_eql_slice_nil w' _ _ none 0 cap 0 0 Try.underlying22
    go_enter Try.func59, Try.ntmps59
    go_wp2_with fail
    go_ret
    exact ⟨_, rfl, OwnR.nil _ _, Below.refl _ _⟩
  | some a =>
    obtain ⟨i0, hi, hz0, hz1, hz2⟩ := info_parts infoLab
    have HO := Lib.hid (show OwnR 43 2 encLab (w.alloc (.cells #[] 43)) w.heap.size (.slice (some ⟨w.heap.size, 0, none⟩) 0 0) ([] : List Lab) from
      ⟨by simp [World.alloc], .inr ⟨w.heap.size, 0, #[], rfl, Nat.le_refl _, heap_alloc_new .., by simp, by simp [maxLen], rfl, rfl⟩⟩)
    have HN := Lib.hid (labels_news (HV.out.below ((Below.refl _ w).alloc (Nat.le_refl _) (.cells #[] 43))))
    clear h3
    have hq : ∀ w', (binOp .eql 22 (.slice (some a) ls.length cap) (.slice none 0 0)).run Try.prog w' = .ok (.bool false) w' := fun w' => Lib.run_eql_slice_nil w' _ _ (some a) ls.length cap 0 0 Try.underlying22
    go_enter Try.func59, Try.ntmps59
    go_wp2_with (at_builtin; refine wpList_append_own_at _ rfl (.tmp 5) (.tmp 6) 22 rfl w.heap.size 43 i0 _ 2 32 Try.underlying22 hi hz0 hz1 hz2 rfl (by decide) _ 0 [] rfl HO.out a ls.length cap (ls.flatMap encLab) rfl (flat_len (enc := encLab) (k := 2) (fun _ => rfl) ls) HN.out encLab_one (by simp only [maxLen]; omega) (by omega) (by simp) ?_; intro v' w4 hown4 hg4 _ _)
    go_ret
    have hg5 : (w.alloc (.cells #[] 43)).grownBy w4 (some w.heap.size) := hg4
    refine ⟨_, rfl, by unfold OwnR; simpa using hown4, ((Below.refl _ w).alloc (Nat.le_refl _) _).grown hg5 (by simp) (fun k hk => by cases hk; exact Nat.le_refl _)⟩

set_option maxRecDepth 100000 in
theorem insertion_nil (w : World) :
    Calls Try.prog 90 #[.slice none 0 0, .int .i64 0, .int .i64 0, cmpV] w fun e w' => e = .returned (.tuple #[]) ∧ w = w' := by
  unfold cmpV
  go_enter Try.func90, Try.ntmps90
  go_wp2_with fail
  go_loopw [8] (fun i wr => i = .int .i64 1 ∧ w = wr) (fun _ _ => 0)
  case atStart => exact ⟨rfl, rfl⟩
  case round =>
    obtain ⟨rfl, rfl⟩ := hrel
    go_wp2_with fail
    go_end0
    exact ⟨rfl, rfl⟩
set_option maxRecDepth 100000 in
theorem stable_nil (w : World) :
    Calls Try.prog 79 #[.slice none 0 0, .int .i64 0, cmpV] w fun e w' => e = .returned (.tuple #[]) ∧ w = w' := by
  have HI := Lib.hid (fun w => insertion_nil w)
  unfold cmpV
  unfold cmpV at HI
  go_enter Try.func79, Try.ntmps79
  go_wp2_with fail
  go_loopw [7, 8] (fun i j wr => i = .int .i64 0 ∧ j = .int .i64 20 ∧ w = wr) (fun _ _ _ => 0)
  case atStart => exact ⟨rfl, rfl, rfl⟩
  case round =>
    obtain ⟨rfl, rfl, rfl⟩ := hrel
    go_wp2_with fail
    refine (HI.out _).mono ?_
    rintro e w3 ⟨rfl, rfl⟩
    go_wp2_with fail
    go_loopw [6] (fun i wr => i = .int .i64 20 ∧ w = wr) (fun _ _ => 0)
    case atStart => exact ⟨rfl, rfl⟩
    case round =>
      obtain ⟨rfl, rfl⟩ := hrel
      go_wp2_with fail
      go_end0
      exact ⟨rfl, rfl⟩

/-- The call's own row, put in order where it stands. -/
theorem sortStable_any (v : Value) (ls : List Lab) (base : Nat) (w : World) (hv : OwnR 43 2 encLab w base v ls) (hl : ls.length ≤ 1000000) (hb : base ≤ w.heap.size) :
    Calls Try.prog 60 #[v, cmpV] w fun e w' => e = .returned (.tuple #[]) ∧ Labels w' v (sortL ltE ls) ∧ Below base w w' := by
  rcases hv.2 with ⟨rfl, h0⟩ | ⟨g, cap, cur, rfl, hg, hh, hn, hcap, hs, htake⟩
  · obtain rfl : ls = [] := List.eq_nil_of_length_eq_zero h0
    have HI := Lib.hid (fun w => stable_nil w)
    have HX := Lib.hid (show Labels w (.slice none 0 0) (sortL ltE []) from (OwnR.nil (t := 43) (k := 2) (enc := encLab) w base).labels)
    clear hv h0 hl
    unfold cmpV at HI ⊢
    go_enter Try.func60, Try.ntmps60
    go_wp2_with fail
    refine (HI.out _).mono ?_
    rintro e w3 ⟨rfl, rfl⟩
    go_wp2_with fail
    go_end0
    exact ⟨rfl, HX.out, Below.refl _ _⟩
  · have HR := Lib.hid (show RowE w g cap ls from ⟨hn, hcap, cur, hh, hs, htake⟩)
    have HC := Lib.hid (stable_any ls.length w HR.out rfl hl)
    have HX := Lib.hid (fun w' (h1 : RowE w' g cap (sortL ltE ls)) (h2 : w.grownBy w' (some g)) => show Labels w' (.slice (some ⟨g, 0, none⟩) ls.length cap) (sortL ltE ls) ∧ Below base w w' from by
      refine ⟨?_, (Below.refl _ _).grown h2 hb (fun k hk => by cases hk; exact hg)⟩
      obtain ⟨p1, p2, cur', q1, q2, q3⟩ := h1
      have ho : OwnR 43 2 encLab w' 0 (.slice (some ⟨g, 0, none⟩) (sortL ltE ls).length cap) (sortL ltE ls) := ⟨flat_len (enc := encLab) (k := 2) (fun _ => rfl) _, .inr ⟨g, cap, cur', rfl, Nat.zero_le _, q1, p1, p2, q2, q3⟩⟩
      have := ho.labels
      rw [sortL_len] at this
      exact this)
    clear hv hh hs htake hn hg hb
    unfold cmpV at HC ⊢
    go_enter Try.func60, Try.ntmps60
    go_wp2_with fail
    refine HC.out.mono ?_
    rintro e w3 ⟨rfl, h1, h2⟩
    have HY := Lib.hid (HX.out _ h1 h2)
    clear h1 h2
    go_wp2_with fail
    go_end0
    exact ⟨rfl, HY.out⟩

set_option maxRecDepth 100000 in
theorem sort_any (v : Value) (ls : List Lab) (w : World) (hv : Labels w v ls) (hl : ls.length ≤ 1000000) :
    Calls Try.prog 39 #[v] w fun e w' => ∃ u, e = .returned u ∧ Labels w' u (sortL ltE ls) ∧ Below w.heap.size w w' := by
  have HC := Lib.hid (cloneL_any v ls w hv hl)
  have HS := Lib.hid (fun u w1 (h1 : OwnR 43 2 encLab w1 w.heap.size u ls) (h2 : w.heap.size ≤ w1.heap.size) => sortStable_any u ls w.heap.size w1 h1 hl h2)
  clear hv
  unfold cmpV at HS
  go_enter Try.func39, Try.ntmps39
  go_wp2_with fail
  refine HC.out.mono ?_
  rintro e w1 ⟨u, rfl, h1, h2⟩
  have HT := Lib.hid (HS.out u w1 h1 h2.size)
  have HB := Lib.hid h2
  clear h1 h2 HS
  go_wp2_with fail
  refine HT.out.mono ?_
  rintro e w2 ⟨rfl, h3, h4⟩
  have HL := Lib.hid h3
  have HB2 := Lib.hid (HB.out.trans h4)
  clear h3 h4
  go_wp2_with fail
  go_ret
  exact ⟨_, rfl, HL.out, HB2.out⟩

end Go.Proofs.Ytamdkmcdleilpaa
