/-
  slices.Clone; series.In.
-/
import Derived.Test.YtilkcojfencggaaADel
import Derived.Maps.AppendAt
import Derived.Lib.SliceRun
set_option linter.unusedSimpArgs false
set_option linter.unusedVariables false
namespace Go.Proofs.Ytilkcojfencggaa
open Go.RowKit

theorem samples_news {w : World} {a : Addr} {n cap : Nat} {ls : List Smp} (h : Samples w (.slice (some a) n cap) ls) : ∀ j u, (ls.flatMap encS)[j]? = some u → w.cell? (a.add j) = some u := by
  intro j u hj
  have hlen := flat_len (enc := encS) (k := 2) (fun _ => rfl) ls
  have hjl : j < ls.length * 2 := by
    rcases Nat.lt_or_ge j (ls.length * 2) with h' | h'
    · exact h'
    · rw [List.getElem?_eq_none (by omega)] at hj; cases hj
  obtain ⟨b, off, ha, hb, h1, h2⟩ := h.at_ (i := j / 2) (by omega)
  simp only [Option.some.injEq] at ha
  subst ha
  have e : j / 2 * 2 + j % 2 = j := by omega
  rw [Addr.add_lit]
  have hf := flat_at (enc := encS) (k := 2) (fun _ => rfl) (0, 0) ls (j / 2) (j % 2) (by omega) (by omega)
  rw [e] at hf
  rw [hf] at hj
  have : j % 2 = 0 ∨ j % 2 = 1 := by omega
  rcases this with e2 | e2
  · rw [e2] at hj e
    rw [show off + j = off + j / 2 * 2 by omega, h1]; exact hj
  · rw [e2] at hj e
    rw [show off + j = off + j / 2 * 2 + 1 by omega, h2]; exact hj
theorem encS_one {ls : List Smp} : ∀ u ∈ ls.flatMap encS, u.oneCell' = true := by
  intro u hu
  obtain ⟨x, _, hx⟩ := List.mem_flatMap.1 hu
  simp only [encS, List.mem_cons, List.not_mem_nil, or_false] at hx
  rcases hx with rfl | rfl <;> rfl

set_option maxRecDepth 100000 in
set_option maxHeartbeats 1000000 in
theorem clone_any (v : Value) (ls : List Smp) (w : World) (hv : Samples w v ls) (hl : ls.length ≤ 1000000) :
    Calls Try.prog 24 #[v] w fun e w' => ∃ u, e = .returned u ∧ OwnR 37 2 encS w' w.heap.size u ls ∧ Below w.heap.size w w' := by
  have HV := Lib.hid hv
  obtain ⟨a, cap, rfl, h1, h2, h3⟩ := hv
  cases a with
  | none =>
    have hn : ls = [] := by
      cases ls with
      | nil => rfl
      | cons x r => obtain ⟨b, off, hx, _⟩ := h3 (by simp); cases hx
    subst hn
    have hq : ∀ w', (binOp .eql 22 (.slice none 0 cap) (.slice none 0 0)).run Try.prog w' = .ok (.bool true) w' := fun w' => Lib.run_eql_slice_nil w' _ _ none 0 cap 0 0 Try.underlying22
    go_enter Try.func24, Try.ntmps24
    go_wp2_with fail
    go_ret
    exact ⟨_, rfl, OwnR.nil _ _, Below.refl _ _⟩
  | some a =>
    obtain ⟨i0, hi, hz0, hz1, hz2⟩ := info_parts infoSmp
    have HO := Lib.hid (OwnR.fresh (α := Smp) (t := 37) (k := 2) (enc := encS) w (base := w.heap.size) (Nat.le_refl _))
    have HN := Lib.hid (samples_news (HV.out.below ((Below.refl _ w).alloc (Nat.le_refl _) (.cells #[] 37))))
    clear h3
    have hq : ∀ w', (binOp .eql 22 (.slice (some a) ls.length cap) (.slice none 0 0)).run Try.prog w' = .ok (.bool false) w' := fun w' => Lib.run_eql_slice_nil w' _ _ (some a) ls.length cap 0 0 Try.underlying22
    go_enter Try.func24, Try.ntmps24
    go_wp2_with (at_builtin; refine wpList_append_own_at _ rfl (.tmp 5) (.tmp 6) 22 rfl w.heap.size 37 i0 _ 2 16 Try.underlying22 hi hz0 hz1 hz2 rfl (by decide) _ 0 [] rfl HO.out a ls.length cap (ls.flatMap encS) rfl (flat_len (enc := encS) (k := 2) (fun _ => rfl) ls) HN.out encS_one (by simp only [maxLen]; omega) (by omega) (by simp) ?_; intro v' w4 hown4 hg4 _ _)
    go_ret
    have hg5 : (w.alloc (.cells #[] 37)).grownBy w4 (some w.heap.size) := hg4
    refine ⟨_, rfl, by unfold OwnR; simpa using hown4, ((Below.refl _ w).alloc (Nat.le_refl _) _).grown hg5 (by simp) (fun k hk => by cases hk; exact Nat.le_refl _)⟩

theorem badAt_nil (f t : Int) : idxL f t [] = -1 := rfl
set_option maxRecDepth 100000 in
theorem deleteFunc_nil (f t : Int) (C B : Nat) (w : World) (he : Env w C B f t) :
    Calls Try.prog 23 #[.slice none 0 0, del C] w fun e w' => e = .returned (.slice none 0 0) ∧ Below w.heap.size w w' := by
  have HI := Lib.hid (indexFunc_any (.slice none 0 0) [] f t C B w (Samples.nil w) he)
  rw [badAt_nil] at HI
  rw [del]
  rw [del] at HI
  go_enter Try.func23, Try.ntmps23
  go_wp2_with fail
  refine HI.out.mono ?_
  rintro e w1 ⟨rfl, hd⟩
  go_wp2_with fail
  go_ret
  exact ⟨rfl, hd⟩

theorem deleteFunc_own (v : Value) (ls : List Smp) (f t : Int) (C B base : Nat) (w : World) (hv : OwnR 37 2 encS w base v ls) (he : Env w C B f t) (hC : C < base) (hB : B < base) (hbase : base ≤ w.heap.size) :
    Calls Try.prog 23 #[v, del C] w fun e w' => ∃ u, e = .returned u ∧ Samples w' u (ls.filter (inB f t)) ∧ Below base w w' := by
  have hv' := hv
  rcases hv.2 with ⟨rfl, h0⟩ | ⟨g, cap, cur, rfl, hg⟩
  · obtain rfl : ls = [] := List.eq_nil_of_length_eq_zero h0
    refine (deleteFunc_nil f t C B w he).mono ?_
    rintro e w' ⟨rfl, hd⟩
    exact ⟨_, rfl, Samples.nil _, hd.mono hbase⟩
  · exact deleteFunc_any g ls.length cap base ls f t C B w hv'.row he hC hB hbase

set_option maxRecDepth 100000 in
set_option maxHeartbeats 1000000 in
theorem in_any (v : Value) (ls : List Smp) (f t : Int) (w : World) (hv : Samples w v ls) (hl : ls.length ≤ 1000000) :
    Calls Try.prog 17 #[v, .agg #[.int .i64 f, .int .i64 t]] w fun e w' => ∃ u, e = .returned u ∧ Samples w' u (ls.filter (inB f t)) ∧ Below w.heap.size w w' := by
  have HV := Lib.hid hv
  have HW := Lib.hid (fun w => within_any f t w)
  have HD := Lib.hid (fun v C B base w h1 h2 h3 h4 h5 => deleteFunc_own v ls f t C B base w h1 h2 h3 h4 h5)
  simp only [clo] at HW
  simp only [del] at HD
  go_enter Try.func17, Try.ntmps17
  go_wp2_with fail
  refine (HW.out _).mono ?_
  rintro e w1 ⟨rfl, hw1⟩
  have HX := Lib.hid (show RBx w1 (w.alloc (.cells #[.int .i64 f, .int .i64 t] 24)).heap.size f t by rw [hw1]; exact heap_alloc_new ..)
  have HB1 := Lib.hid (show Below w.heap.size w w1 by rw [hw1]; exact ((Below.refl _ w).alloc (Nat.le_refl _) _).alloc (by simp) _)
  clear hw1
  generalize (w.alloc (.cells #[.int .i64 f, .int .i64 t] 24)).heap.size = B at HX ⊢
  have HE := Lib.hid (show Env (w1.alloc (.cells #[.func (.func 27) #[] #[.pointer (some ⟨B, 0, none⟩)]] 55)) w1.heap.size B f t from
    ⟨by rw [World.cell?_alloc_at _ _ _ _ rfl]; rfl, HX.out.below ((Below.refl _ _).alloc (Nat.le_refl _) _)⟩)
  have hBl : B < w1.heap.size := (Array.getElem?_eq_some_iff.1 HX.out).1
  have HB2 := Lib.hid (show Below w.heap.size w (w1.alloc (.cells #[.func (.func 27) #[] #[.pointer (some ⟨B, 0, none⟩)]] 55)) from HB1.out.alloc HB1.out.size _)
  go_wp2_with fail
  refine (clone_any v ls _ (HV.out.below HB2.out) hl).mono ?_
  rintro e w3 ⟨u, rfl, ho3, hd3⟩
  have HO3 := Lib.hid ho3
  have HE3 := Lib.hid (HE.out.below hd3)
  have HB3 := Lib.hid (HB2.out.trans (hd3.mono HB2.out.size))
  have HSZ := Lib.hid hd3.size
  have HSZ2 := Lib.hid HB2.out.size
  clear ho3 hd3
  go_wp2_with fail
  refine (HD.out _ _ _ _ _ HO3.out HE3.out (by simp) (by simp; omega) HSZ.out).mono ?_
  rintro e w4 ⟨u4, rfl, hs4, hd4⟩
  have HS4 := Lib.hid hs4
  have HB4 := Lib.hid (HB3.out.trans (hd4.mono HSZ2.out))
  clear hs4 hd4
  go_wp2_with fail
  go_ret
  exact ⟨_, rfl, HS4.out, HB4.out⟩

end Go.Proofs.Ytilkcojfencggaa
