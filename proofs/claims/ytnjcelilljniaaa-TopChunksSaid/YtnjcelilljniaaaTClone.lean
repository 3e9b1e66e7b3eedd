/-
  slices.Clone of samples.
-/
import Derived.Test.YtnjcelilljniaaaTSmp
import Derived.Maps.AppendAt
import Derived.Lib.SliceRun
namespace Go.Proofs.Ytnjcelilljniaaa
open Go.RowKit

theorem samples_news {w : World} {a : Addr} {n cap : Nat} {ls : List Smp} (h : Samples w (.slice (some a) n cap) ls) : ∀ j u, (ls.flatMap encS)[j]? = some u → w.cell? (a.add j) = some u := by
  intro j u hj
  have hlen := flat_len (enc := encS) (k := 2) (fun _ => rfl) ls
  have hjl : j < ls.length * 2 := by
    rcases Nat.lt_or_ge j (ls.length * 2) with h' | h'
    · exact h'
    · rw [List.getElem?_eq_none (by omega)] at hj; cases hj
  obtain ⟨b, off, ha, hb, h1, h2⟩ := h.at_ (i := j / 2) (by omega)
  simp only [Option.some.injEq] at ha
  subst ha
  have e : j / 2 * 2 + j % 2 = j := by omega
  rw [Addr.add_lit]
  have hf := flat_at (enc := encS) (k := 2) (fun _ => rfl) (0, 0) ls (j / 2) (j % 2) (by omega) (by omega)
  rw [e] at hf
  rw [hf] at hj
  have : j % 2 = 0 ∨ j % 2 = 1 := by omega
  rcases this with e2 | e2
  · rw [e2] at hj e
    rw [show off + j = off + j / 2 * 2 by omega, h1]; exact hj
  · rw [e2] at hj e
    rw [show off + j = off + j / 2 * 2 + 1 by omega, h2]; exact hj
theorem encS_one {ls : List Smp} : ∀ u ∈ ls.flatMap encS, u.oneCell' = true := by
  intro u hu
  obtain ⟨x, _, hx⟩ := List.mem_flatMap.1 hu
  simp only [encS, List.mem_cons, List.not_mem_nil, or_false] at hx
  rcases hx with rfl | rfl <;> rfl

set_option maxRecDepth 100000 in
set_option maxHeartbeats 1000000 in
theorem clone_any (v : Value) (ls : List Smp) (w : World) (hv : Samples w v ls) (hl : ls.length ≤ 1000000) :
    Calls Try.prog 52 #[v] w fun e w' => ∃ u, e = .returned u ∧ OwnR 25 2 encS w' w.heap.size u ls ∧ Below w.heap.size w w' := by
  have HV := Lib.hid hv
  obtain ⟨a, cap, rfl, h1, h2, h3⟩ := hv
  cases a with
  | none =>
    have hn : ls = [] := by
      cases ls with
      | nil => rfl
      | cons x r => obtain ⟨b, off, hx, _⟩ := h3 (by simp); cases hx
    subst hn
    have hq : ∀ w', (binOp .eql 22 (.slice none 0 cap) (.slice none 0 0)).run Try.prog w' = .ok (.bool true) w' := fun w' => Lib.run_eql_slice_nil w' _ _ none 0 cap 0 0 Try.underlying22
    go_enter Try.func52, Try.ntmps52
    go_wp2_with fail
    go_ret
    exact ⟨_, rfl, OwnR.nil _ _, Below.refl _ _⟩
  | some a =>
    obtain ⟨i0, hi, hz0, hz1, hz2⟩ := info_parts infoSmp
    have HO := Lib.hid (OwnR.fresh (α := Smp) (t := 25) (k := 2) (enc := encS) w (base := w.heap.size) (Nat.le_refl _))
    have HN := Lib.hid (samples_news (HV.out.below ((Below.refl _ w).alloc (Nat.le_refl _) (.cells #[] 25))))
    clear h3
    have hq : ∀ w', (binOp .eql 22 (.slice (some a) ls.length cap) (.slice none 0 0)).run Try.prog w' = .ok (.bool false) w' := fun w' => Lib.run_eql_slice_nil w' _ _ (some a) ls.length cap 0 0 Try.underlying22
    go_enter Try.func52, Try.ntmps52
    go_wp2_with (at_builtin; refine wpList_append_own_at _ rfl (.tmp 5) (.tmp 6) 22 rfl w.heap.size 25 i0 _ 2 16 Try.underlying22 hi hz0 hz1 hz2 rfl (by decide) _ 0 [] rfl HO.out a ls.length cap (ls.flatMap encS) rfl (flat_len (enc := encS) (k := 2) (fun _ => rfl) ls) HN.out encS_one (by simp only [maxLen]; omega) (by omega) (by simp) ?_; intro v' w4 hown4 hg4 _ _)
    go_ret
    have hg5 : (w.alloc (.cells #[] 25)).grownBy w4 (some w.heap.size) := hg4
    refine ⟨_, rfl, by unfold OwnR; simpa using hown4, ((Below.refl _ w).alloc (Nat.le_refl _) _).grown hg5 (by simp) (fun k hk => by cases hk; exact Nat.le_refl _)⟩

end Go.Proofs.Ytnjcelilljniaaa
