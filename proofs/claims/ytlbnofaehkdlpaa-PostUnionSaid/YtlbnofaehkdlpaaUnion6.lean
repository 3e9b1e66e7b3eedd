/-
  Slices of slices of ints; the walks of post.Union, the reference's Union, slices.Clone.
-/
import Derived.Test.YtlbnofaehkdlpaaLawHas
import Derived.Deep.RegionHeld3
import Derived.Deep.DrawnRows
import Derived.Lib.SliceRun
namespace Go.Proofs.Ytlbnofaehkdlpaa
open Go.RowKit

/-- Slice value v reads as the list of lists ls in world w. -/
def Lists (w : World) (v : Value) (ls : List (List Int)) : Prop :=
  ∃ a cap, v = .slice a ls.length cap ∧ ls.length ≤ cap ∧ cap ≤ 9223372036854775807 ∧
    (ls ≠ [] → ∃ b off, a = some ⟨b, off, none⟩ ∧ b < w.heap.size ∧ ∀ i, i < ls.length → ∃ u, w.cell? ⟨b, off + i, none⟩ = some u ∧ Ints w u (ls.getD i []))

theorem Lists.below {w w' : World} {v : Value} {ls : List (List Int)} (h : Lists w v ls) (hb : Below w.heap.size w w') : Lists w' v ls := by
  obtain ⟨a, cap, hv, h1, h2, h3⟩ := h
  refine ⟨a, cap, hv, h1, h2, fun hx => ?_⟩
  obtain ⟨b, off, ha, hlt, hc⟩ := h3 hx
  refine ⟨b, off, ha, Nat.lt_of_lt_of_le hlt hb.size, fun i hi => ?_⟩
  obtain ⟨u, hu, hI⟩ := hc i hi
  exact ⟨u, (hb.cell (p := ⟨b, off + i, none⟩) hlt).trans hu, hI.below hb⟩

theorem Lists.at_ {w : World} {v : Value} {ls : List (List Int)} (h : Lists w v ls) {i : Nat} (hi : i < ls.length) :
    ∃ b off cap u, v = .slice (some ⟨b, off, none⟩) ls.length cap ∧ cap ≤ 9223372036854775807 ∧ b < w.heap.size ∧ w.cell? ⟨b, off + i, none⟩ = some u ∧ Ints w u (ls.getD i []) := by
  obtain ⟨a, cap, hv, h1, h2, h3⟩ := h
  obtain ⟨b, off, ha, hlt, hc⟩ := h3 (by intro e; subst e; simp at hi)
  obtain ⟨u, hu, hI⟩ := hc i hi
  subst ha
  exact ⟨b, off, cap, u, hv, h2, hlt, hu, hI⟩

theorem to_run {w : World} {l : List (List Int)} {v : Value} (h : Lists w v l) (k : Nat) (hk : k ≤ l.length) :
    ∃ u, (∀ w', (Instr.sliceAt 27 v none (some (.int .i64 k)) none).run Try.prog w' = .ok u w') ∧ Lists w u (l.take k) := by
  obtain ⟨a, c, rfl, h1, h2, h3⟩ := h
  refine ⟨.slice (if c = 0 then a else a.map (·.add (0 * 1))) (k - 0) (c - 0), fun w' => ?_, ?_⟩
  · rw [run_sliceAt_slice _ _ _ _ _ _ rfl, run_slice_h _ _ _ _ _ rfl _ _ (by omega) (by omega)]
    rfl
  · have hl : (l.take k).length = k := by rw [List.length_take]; omega
    refine ⟨_, c - 0, by rw [hl]; rfl, by rw [hl]; omega, by omega, fun hne => ?_⟩
    have hp : 0 < k := by
      rcases Nat.eq_zero_or_pos k with e | e
      · subst e; simp at hne
      · exact e
    obtain ⟨b, off, rfl, hb, hc⟩ := h3 (by intro e; subst e; simp at hk; omega)
    refine ⟨b, off, by rw [if_neg (by omega)]; simp [Addr.add_lit], hb, fun i hi => ?_⟩
    rw [hl] at hi
    obtain ⟨u, hu, hI⟩ := hc i (by omega)
    exact ⟨u, hu, by simpa [List.getD, List.getElem?_take, hi] using hI⟩
theorem from_run2 {w : World} {l : List (List Int)} {v : Value} (h : Lists w v l) (k : Nat) (hk : k ≤ l.length) :
    ∃ u, (∀ w', (Instr.sliceAt 27 v (some (.int .i64 k)) none none).run Try.prog w' = .ok u w') ∧ Lists w u (l.drop k) := by
  obtain ⟨a, c, rfl, h1, h2, h3⟩ := h
  refine ⟨.slice (if c = k then a else a.map (·.add (k * 1))) (l.length - k) (c - k), fun w' => ?_, ?_⟩
  · rw [run_sliceAt_slice _ _ _ _ _ _ rfl, run_slice_l _ _ _ _ _ rfl _ _ (by omega) (by omega)]
    rfl
  · refine ⟨_, c - k, by rw [List.length_drop], by rw [List.length_drop]; omega, by omega, fun hl => ?_⟩
    have hlt : k < l.length := by
      rcases Nat.lt_or_ge k l.length with h | h
      · exact h
      · exact absurd (List.drop_eq_nil_of_le h) hl
    obtain ⟨b, off, rfl, hb, hc⟩ := h3 (by intro h; rw [h] at hlt; simp at hlt)
    refine ⟨b, off + k, by rw [if_neg (by omega)]; simp [Addr.add_lit], hb, fun i hi => ?_⟩
    rw [List.length_drop] at hi
    obtain ⟨u, hu, hI⟩ := hc (k + i) (by omega)
    exact ⟨u, by rw [Nat.add_assoc]; exact hu, by simpa [List.getD] using hI⟩

/-! ### plain -/
def total (ls : List (List Int)) : Nat := (ls.map List.length).sum
def InSome (ls : List (List Int)) (m : Int) : Prop := ∃ l ∈ ls, m ∈ l
theorem total_app (a b : List (List Int)) : total (a ++ b) = total a + total b := by simp [total]
theorem total_cut (ls : List (List Int)) (k : Nat) : total (ls.take k) + total (ls.drop k) = total ls := by rw [← total_app, List.take_append_drop]
theorem inSome_cut (ls : List (List Int)) (k : Nat) (m : Int) : InSome ls m ↔ InSome (ls.take k) m ∨ InSome (ls.drop k) m := by
  constructor
  · rintro ⟨l, hl, hm⟩
    rw [← List.take_append_drop k ls] at hl
    rcases List.mem_append.1 hl with h | h
    · exact .inl ⟨l, h, hm⟩
    · exact .inr ⟨l, h, hm⟩
  · rintro (⟨l, hl, hm⟩ | ⟨l, hl, hm⟩)
    · exact ⟨l, List.mem_of_mem_take hl, hm⟩
    · exact ⟨l, List.mem_of_mem_drop hl, hm⟩

/-- What a union answers. -/
def Unites (w : World) (ls : List (List Int)) (e : Ending) (w' : World) : Prop :=
  ∃ v' r, e = .returned v' ∧ Ints w' v' r ∧ Below w.heap.size w w' ∧ Rising r ∧ r.length ≤ total ls ∧ ∀ m, m ∈ r ↔ InSome ls m

/-! ### slices.Clone -/
theorem ints_eq_nil {w : World} {v : Value} {xs : List Int} (h : Ints w v xs) : (∃ c, v = .slice none 0 c ∧ xs = []) ∨ ∃ b c, v = .slice (some b) xs.length c := by
  obtain ⟨a, c, rfl, h1, h2, h3⟩ := h
  cases a with
  | none => 
    rcases Classical.em (xs = []) with e | e
    · subst e; exact .inl ⟨c, rfl, rfl⟩
    · obtain ⟨_, _, e', _⟩ := h3 e; cases e'
  | some b => exact .inr ⟨b, c, rfl⟩

set_option maxRecDepth 100000 in
set_option maxHeartbeats 1000000 in
theorem clone_any (v : Value) (xs : List Int) (w : World) (hv : Ints w v xs) (hlen : xs.length ≤ 1000000000000) :
    Calls Try.prog 26 #[v] w fun e w' => ∃ v', e = .returned v' ∧ Ints w' v' xs ∧ Below w.heap.size w w' := by
  have HV := Lib.hid hv
  have hnil := fun (wx : World) a n c n' c' => Lib.run_eql_slice_nil (P := Try.prog) wx 22 3 a n c n' c' Try.underlying22
  rcases ints_eq_nil hv with ⟨c, rfl, rfl⟩ | ⟨b, c, rfl⟩
  · clear hv
    go_enter Try.func26, Try.ntmps26
    go_wp2_with fail
    go_ret
    exact ⟨_, rfl, ⟨none, 0, rfl, Nat.le_refl _, by omega, fun h => absurd rfl h⟩, Below.refl _ _⟩
  · clear hv
    go_enter Try.func26, Try.ntmps26
    go_wp2_with (at_builtin; refine wpList_appS _ rfl (.tmp 5) (.tmp 6) rfl w.heap.size _ _ [] xs rfl rfl (HV.out.below ((Below.refl _ _).alloc (Nat.le_refl _) _)) (Own.made _ _ (Nat.le_refl _)) (by simp) (by simpa using hlen) ?_; intro v' w1 hown1 hbel1)
    go_ret
    exact ⟨_, rfl, by simpa using hown1.ints, ((Below.refl _ _).alloc (Nat.le_refl _) _).trans hbel1⟩

/-! ### post.Union -/
set_option maxRecDepth 100000 in
set_option maxHeartbeats 1000000 in
attribute [local go_sem ↓] Go.wp_at_zero Go.wp_at_succ in
theorem union_any : ∀ (k : Nat) (ls : List (List Int)) (v : Value) (w : World), ls.length ≤ k → Hid (Lists w v ls) → Hid (∀ l ∈ ls, Rising l) → total ls ≤ 1000000000000 →
    Calls Try.prog 18 #[v] w (Unites w ls) := by
  intro k
  induction k with
  | zero =>
    intro ls v w hk HL HR ht
    obtain rfl : ls = [] := List.eq_nil_of_length_eq_zero (by omega)
    obtain ⟨a, c, rfl, _⟩ := HL.out
    go_enter Try.func18, Try.ntmps18
    go_wp2_with fail
    go_ret
    exact ⟨_, [], rfl, ⟨none, 0, rfl, Nat.le_refl _, by omega, fun h => absurd rfl h⟩, Below.refl _ _, List.Pairwise.nil, by simp, fun m => by simp [InSome]⟩
  | succ k ih =>
    intro ls v w hk HL HR ht
    have IH := Lib.hid ih
    clear ih
    by_cases h0 : ls.length = 0
    · obtain rfl : ls = [] := List.eq_nil_of_length_eq_zero h0
      obtain ⟨a, c, rfl, _⟩ := HL.out
      clear h0
      go_enter Try.func18, Try.ntmps18
      go_wp2_with fail
      go_ret
      exact ⟨_, [], rfl, ⟨none, 0, rfl, Nat.le_refl _, by omega, fun h => absurd rfl h⟩, Below.refl _ _, List.Pairwise.nil, by simp, fun m => by simp [InSome]⟩
    · by_cases h1 : ls.length = 1
      · obtain ⟨l, rfl⟩ : ∃ l, ls = [l] := List.length_eq_one_iff.1 h1
        obtain ⟨b, off, c, u, rfl, hc1, hb, hu, hI⟩ := HL.out.at_ (i := 0) (by simp)
        have HI := Lib.hid (show Ints w u l from hI)
        have hu' : w.cell? ⟨b, off, none⟩ = some u := by simpa using hu
        have hll : l.length ≤ 1000000000000 := by simpa [total] using ht
        clear hI hu h0 h1 ht
        go_enter Try.func18, Try.ntmps18
        go_wp2_with (go_at_call 26; refine (clone_any _ _ _ HI.out hll).mono ?_; rintro e w1 ⟨v1, rfl, hown, hbel⟩)
        go_ret
        exact ⟨_, l, rfl, hown, hbel, HR.out l (by simp), by simp [total], fun m => by simp [InSome]⟩
      · have hn : 2 ≤ ls.length := by omega
        obtain ⟨u1, hr1, hl1⟩ := to_run HL.out (ls.length / 2) (by omega)
        obtain ⟨u2, hr2, hl2⟩ := from_run2 HL.out (ls.length / 2) (by omega)
        obtain ⟨a, c, rfl, hc1, hc2, _⟩ := HL.out
        have hcut := total_cut ls (ls.length / 2)
        have ec : ((ls.length / 2 : Nat) : Int) = (ls.length : Int) / 2 := by omega
        rw [ec] at hr1 hr2
        have hq : IntKind.i64.wrap ((ls.length : Int) / 2) = (ls.length : Int) / 2 := IntWalk.i64_in _ (by omega)
        have hb01 : (0 : Int) ≤ (ls.length : Int) / 2 := by omega
        have hb02 : (ls.length : Int) / 2 ≤ (ls.length : Int) := by omega
        have hb03 : (ls.length : Int) / 2 ≤ (c : Int) := by omega
        have HL1 := Lib.hid hl1
        have HL2 := Lib.hid hl2
        have HT1 := Lib.hid (show (ls.take (ls.length / 2)).length ≤ k by rw [List.length_take]; omega)
        have HT2 := Lib.hid (show (ls.drop (ls.length / 2)).length ≤ k by rw [List.length_drop]; omega)
        have HR1 := Lib.hid (fun l (h : l ∈ ls.take (ls.length / 2)) => HR.out l (List.mem_of_mem_take h))
        have HR2 := Lib.hid (fun l (h : l ∈ ls.drop (ls.length / 2)) => HR.out l (List.mem_of_mem_drop h))
        have HM := Lib.hid (inSome_cut ls (ls.length / 2))
        have hd0 : ((ls.length : Int) == 0) = false := by rw [beq_eq_false_iff_ne]; omega
        have hd1 : ((ls.length : Int) == 1) = false := by rw [beq_eq_false_iff_ne]; omega
        have C1 := Lib.hid (fun w' (h : Below w.heap.size w w') => IH.out _ u1 w' HT1.out (HL1.out.below h) HR1.out (by omega))
        have C2 := Lib.hid (fun w' (h : Below w.heap.size w w') => IH.out _ u2 w' HT2.out (HL2.out.below h) HR2.out (by omega))
        clear hl1 hl2 h0 h1 ec
        generalize ls.take (ls.length / 2) = l1 at *
        generalize ls.drop (ls.length / 2) = l2 at *
        go_enter Try.func18, Try.ntmps18
        go_wp2_with fail
        go_region_held3 (fun _ => True) (trivial)
          (first
            | (go_at_call_of 18 (u1); refine (C1.out _ ?_).mono ?_; (first | exact (Below.refl _ _).drew | exact below_drewN (Below.refl _ _) _ | exact Below.refl _ _); rintro e w1 ⟨v1, r1, rfl, hi1, hb1, hR1, hl1, hm1⟩)
            | (go_at_call_of 18 (u2); refine (C2.out _ ?_).mono ?_; (exact ((Below.refl _ _).drew).trans hb1); rintro e w2 ⟨v2, r2, rfl, hi2, hb2, hR2, hl2, hm2⟩)
            | (go_at_call 10; refine (or_any _ _ r1 r2 _ (hi1.below hb2) hi2 hR1 hR2 (by omega)).mono ?_; rintro e w3 ⟨v3, r3, rfl, hown, hb3, hR3, hl3, hm3⟩))
        go_wp2_with fail
        go_ret
        have hm : ∀ m, m ∈ r3 ↔ InSome ls m := fun m => by rw [hm3, hm1, hm2]; exact (HM.out m).symm
        have hsz : w.heap.size ≤ w1.heap.size := hb1.size
        exact ⟨_, r3, rfl, hown.ints, ((Below.refl _ _).drew.trans hb1).trans ((hb2.mono hsz).trans (hb3.mono (Nat.le_trans hsz hb2.size))), hR3, by omega, hm⟩

theorem unites_rising {w : World} {ls : List (List Int)} {e : Ending} {w' : World} (h : Unites w ls e w') :
    ∃ v' r, e = .returned v' ∧ Ints w' v' r ∧ Below w.heap.size w w' ∧ Rising r ∧ r.length ≤ total ls ∧ ∀ m, m ∈ r ↔ InSome ls m := h

/-! ### the reference's Union -/
def UR (ls : List (List Int)) (k : Nat) : List Int := (ls.take k).foldl mgo []
theorem UR_succ {ls : List (List Int)} {k : Nat} (h : k < ls.length) : UR ls (k + 1) = mgo (UR ls k) (ls.getD k []) := by
  unfold UR
  rw [List.take_add_one, List.getElem?_eq_getElem h, List.foldl_append]
  simp [List.getD, List.getElem?_eq_getElem h]
theorem mgo_told {xs ys : List Int} (hx : Rising xs) (hy : Rising ys) : Rising (mgo xs ys) ∧ (mgo xs ys).length ≤ xs.length + ys.length ∧ ∀ m, m ∈ mgo xs ys ↔ m ∈ xs ∨ m ∈ ys := by
  obtain ⟨h1, h2, h3⟩ := mg_told (fun _ _ => true) xs ys hx hy
  exact ⟨h1, h2, fun m => by unfold mgo; rw [h3]; simp⟩
theorem UR_told {ls : List (List Int)} (hr : ∀ l ∈ ls, Rising l) : ∀ k, k ≤ ls.length → Rising (UR ls k) ∧ (UR ls k).length ≤ total (ls.take k) ∧ ∀ m, m ∈ UR ls k ↔ InSome (ls.take k) m := by
  intro k
  induction k with
  | zero => intro _; exact ⟨List.Pairwise.nil, by simp [UR], fun m => by simp [UR, InSome]⟩
  | succ k ih =>
    intro hk
    obtain ⟨h1, h2, h3⟩ := ih (by omega)
    have hlt : k < ls.length := by omega
    have eg : ls.getD k [] = ls[k] := by simp [List.getD, List.getElem?_eq_getElem hlt]
    have hl : Rising (ls.getD k []) := by rw [eg]; exact hr _ (List.getElem_mem hlt)
    obtain ⟨g1, g2, g3⟩ := mgo_told h1 hl
    have et : ls.take (k + 1) = ls.take k ++ [ls.getD k []] := by rw [List.take_add_one, List.getElem?_eq_getElem hlt, eg]; rfl
    rw [UR_succ hlt, et]
    refine ⟨g1, by rw [total_app]; simp only [total, List.map_cons, List.map_nil, List.sum_cons, List.sum_nil] at *; omega, fun m => ?_⟩
    rw [g3, h3]
    constructor
    · rintro (⟨l, hl, hm⟩ | hm)
      · exact ⟨l, List.mem_append_left _ hl, hm⟩
      · exact ⟨_, List.mem_append_right _ (List.mem_singleton.2 rfl), hm⟩
    · rintro ⟨l, hl, hm⟩
      rcases List.mem_append.1 hl with h | h
      · exact .inl ⟨l, h, hm⟩
      · rw [List.mem_singleton.1 h] at hm; exact .inr hm
theorem total_take_le (ls : List (List Int)) (k : Nat) : total (ls.take k) ≤ total ls := by have := total_cut ls k; omega

set_option maxRecDepth 100000 in
set_option maxHeartbeats 1000000 in
theorem refUnion_any (ls : List (List Int)) (v : Value) (w : World) (HL : Hid (Lists w v ls)) (HR : Hid (∀ l ∈ ls, Rising l)) (ht : total ls ≤ 100000000000) :
    Calls Try.prog 19 #[v] w (Unites w ls) := by
  obtain ⟨a, c, rfl, hc1, hc2, _⟩ := HL.out
  go_enter Try.func19, Try.ntmps19
  go_wp2_with fail
  go_loopw [3, 4] (fun o i wr => ∃ k : Nat, k ≤ ls.length ∧ i = .int .i64 k ∧ Ints wr o (UR ls k) ∧ Below w.heap.size w wr)
    (fun _ i _ => ls.length - (intOf i).toNat)
  case atStart => exact ⟨0, Nat.zero_le _, rfl, (Own.made _ _ (Nat.le_refl _)).ints, (Below.refl _ _).alloc (Nat.le_refl _) _⟩
  case round =>
    obtain ⟨k, hk, rfl, hint, hbel⟩ := hrel
    have HI := Lib.hid hint
    clear hint
    obtain ⟨h1, h2, h3⟩ := UR_told HR.out k hk
    have hkt := total_take_le ls k
    have H3 := Lib.hid h3
    have H1 := Lib.hid h1
    clear h3 h1
    by_cases hlt : k < ls.length
    · obtain ⟨b, off, cap, u, hv, hc1, hb, hu, hIu⟩ := HL.out.at_ hlt
      simp only [Value.slice.injEq, true_and] at hv
      obtain ⟨rfl, rfl⟩ := hv
      have hu' : wr.cell? ⟨b, off + k, none⟩ = some u := (hbel.cell (by exact hb)).trans hu
      have HU := Lib.hid (hIu.below hbel)
      have HS := Lib.hid (UR_succ hlt)
      have hgl : (ls.getD k []).length ≤ total ls := by
        have := total_take_le ls (k + 1)
        have e : ls.take (k + 1) = ls.take k ++ [ls.getD k []] := by
          rw [List.take_add_one, List.getElem?_eq_getElem hlt]; simp [List.getD, List.getElem?_eq_getElem hlt]
        rw [e, total_app] at this
        simp only [total, List.map_cons, List.map_nil, List.sum_cons, List.sum_nil] at *; omega
      clear hIu hu
      generalize ls.getD k [] = l at *
      generalize UR ls k = out at *
      go_wp2_with (go_at_call 16; refine (refOr_any _ _ out l _ HI.out HU.out (by omega)).mono ?_; rintro e w1 ⟨v1, rfl, hown, hb1⟩)
      go_roundw
      case rel => exact ⟨k + 1, by omega, by go_num, by rw [HS.out]; exact hown.ints, hbel.trans (hb1.mono hbel.size)⟩
      case measure => simp [intOf]; omega
    · have hkk : k = ls.length := by omega
      have HE := Lib.hid (show ls.take k = ls by rw [hkk]; exact List.take_length)
      clear hkk
      go_wp2_with fail
      go_ret
      exact ⟨_, _, rfl, HI.out, hbel, H1.out, by omega, fun m => by rw [H3.out, HE.out]⟩

end Go.Proofs.Ytlbnofaehkdlpaa
