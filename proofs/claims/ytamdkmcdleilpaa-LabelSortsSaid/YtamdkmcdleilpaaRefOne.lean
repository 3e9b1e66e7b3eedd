/-
  The reference's One; slices of matchers; All, both ways.
-/
import Derived.Test.YtamdkmcdleilpaaLawApart
namespace Go.Proofs.Ytamdkmcdleilpaa
open Go.RowKit

set_option maxRecDepth 100000 in
set_option maxHeartbeats 1000000 in
theorem refOne_0 (n x : Bytes) (u v : Value) (ls : List Lab) (w : World) (hv : Labels w v ls) :
    Calls Try.prog 19 #[.agg #[.int .i64 0, .string (bs n), .string (bs x), u], v] w fun e w' => e = .returned (.bool (getL ls n == x)) ∧ Below w.heap.size w w' := by
  go_enter Try.func19, Try.ntmps19
  go_wp2_with fail
  refine (refGet_any v ls n _ (hv.below ((Below.refl _ _).alloc (Nat.le_refl _) _))).mono ?_
  rintro e w' ⟨rfl, rfl⟩
  go_wp2_with fail
  go_ret
  exact ⟨rfl, (Below.refl _ _).alloc (Nat.le_refl _) _⟩
set_option maxRecDepth 100000 in
set_option maxHeartbeats 1000000 in
theorem refOne_1 (n x : Bytes) (u v : Value) (ls : List Lab) (w : World) (hv : Labels w v ls) :
    Calls Try.prog 19 #[.agg #[.int .i64 1, .string (bs n), .string (bs x), u], v] w fun e w' => e = .returned (.bool (!(getL ls n == x))) ∧ Below w.heap.size w w' := by
  go_enter Try.func19, Try.ntmps19
  go_wp2_with fail
  refine (refGet_any v ls n _ (hv.below ((Below.refl _ _).alloc (Nat.le_refl _) _))).mono ?_
  rintro e w' ⟨rfl, rfl⟩
  go_wp2_with fail
  go_ret
  exact ⟨rfl, (Below.refl _ _).alloc (Nat.le_refl _) _⟩
set_option maxRecDepth 100000 in
set_option maxHeartbeats 1000000 in
theorem refOne_2 (n x : Bytes) (u v : Value) (ls : List Lab) (w : World) (hv : Labels w v ls) (hx : x.length ≤ 1000000000000) (hy : (getL ls n).length ≤ 1000000000000) :
    Calls Try.prog 19 #[.agg #[.int .i64 2, .string (bs n), .string (bs x), u], v] w fun e w' => e = .returned (.bool (isPre x (getL ls n))) ∧ Below w.heap.size w w' := by
  have HV := Lib.hid hv
  have HG := Lib.hid (fun w' h => refGet_any v ls n w' h)
  generalize getL ls n = g at *
  by_cases h : x.length ≤ g.length
  · go_enter Try.func19, Try.ntmps19
    go_wp2_with fail
    refine (HG.out _ (HV.out.below ((Below.refl _ _).alloc (Nat.le_refl _) _))).mono ?_
    rintro e w' ⟨rfl, rfl⟩
    go_wp2_with fail
    go_quiet (fail)
    go_wp2_with fail
    go_ret
    exact ⟨rfl, below_drewN ((Below.refl _ _).alloc (Nat.le_refl _) _) _⟩
  · have HE := Lib.hid (isPre_no h)
    go_enter Try.func19, Try.ntmps19
    go_wp2_with fail
    refine (HG.out _ (HV.out.below ((Below.refl _ _).alloc (Nat.le_refl _) _))).mono ?_
    rintro e w' ⟨rfl, rfl⟩
    go_wp2_with fail
    go_quiet (fail)
    go_wp2_with fail
    go_ret
    exact ⟨by rw [HE.out]; rfl, below_drewN ((Below.refl _ _).alloc (Nat.le_refl _) _) _⟩

theorem hasS_hit {ss : List Bytes} {x : Bytes} {k : Nat} (h : k < ss.length) (e : (ss.getD k [] == x) = true) : hasS (ss.drop k) x = true := by
  rw [drop_str h]; simp only [hasS, List.any_cons]
  have : (x == ss.getD k []) = true := by rw [beq_iff_eq] at *; exact e.symm
  rw [this]; rfl
theorem hasS_miss {ss : List Bytes} {x : Bytes} {k : Nat} (h : k < ss.length) (e : (ss.getD k [] == x) = false) : hasS (ss.drop (k + 1)) x = hasS (ss.drop k) x := by
  rw [drop_str h]; simp only [hasS, List.any_cons]
  have : (x == ss.getD k []) = false := by rw [beq_eq_false_iff_ne] at *; exact fun h => e h.symm
  rw [this]; rfl

set_option maxRecDepth 100000 in
set_option maxHeartbeats 1000000 in
theorem refOne_3 (n x : Bytes) (u v : Value) (ls : List Lab) (w : World) (hv : Labels w v ls) (ss : List Bytes) (hu : Strs w u ss) :
    Calls Try.prog 19 #[.agg #[.int .i64 3, .string (bs n), .string (bs x), u], v] w fun e w' => e = .returned (.bool (hasS ss (getL ls n))) ∧ Below w.heap.size w w' := by
  have HV := Lib.hid hv
  have HU := Lib.hid hu
  have HG := Lib.hid (fun w' h => refGet_any v ls n w' h)
  generalize getL ls n = g at *
  obtain ⟨a, cap, rfl, h1, h2, -⟩ := hu
  go_enter Try.func19, Try.ntmps19
  go_wp2_with fail
  refine (HG.out _ (HV.out.below ((Below.refl _ _).alloc (Nat.le_refl _) _))).mono ?_
  rintro e w' ⟨rfl, rfl⟩
  go_wp2_with fail
  go_loop [6] (fun i => ∃ k : Nat, k ≤ ss.length ∧ i = .int .i64 k ∧ hasS (ss.drop k) g = hasS ss g)
    (fun i => ss.length - (intOf i).toNat)
  case atStart => exact ⟨0, Nat.zero_le _, rfl, rfl⟩
  case round =>
    obtain ⟨k, hk, rfl, hg⟩ := hrel
    have HGG := Lib.hid hg
    clear hg
    by_cases hlt : k < ss.length
    · obtain ⟨b, off, rfl, hb, hc⟩ := (HU.out.below ((Below.refl _ _).alloc (Nat.le_refl _) (.cells #[.int .i64 3, .string (bs n), .string (bs x), .slice a ss.length cap] 27))).at_ hlt
      have HH := Lib.hid (fun e => hasS_hit (x := g) hlt e)
      have HM := Lib.hid (fun e => hasS_miss (x := g) hlt e)
      generalize ss.getD k [] = y at *
      cases e : (y == g) with
      | true =>
        have HE := Lib.hid (HGG.out.symm.trans (HH.out e))
        go_wp2_with fail
        go_ret
        exact ⟨by rw [HE.out]; rfl, (Below.refl _ _).alloc (Nat.le_refl _) _⟩
      | false =>
        have HE := Lib.hid ((HM.out e).trans HGG.out)
        go_wp2_with fail
        go_round
        case rel => exact ⟨k + 1, by omega, by go_num, HE.out⟩
        case measure => simp [intOf]; omega
    · have HE := Lib.hid (show hasS ss g = false by rw [← HGG.out, List.drop_eq_nil_of_le (by omega)]; rfl)
      go_wp2_with fail
      go_ret
      exact ⟨by rw [HE.out]; rfl, (Below.refl _ _).alloc (Nat.le_refl _) _⟩
set_option maxRecDepth 100000 in
set_option maxHeartbeats 1000000 in
theorem refOne_bad (k : Int) (n x : Bytes) (u v : Value) (ls : List Lab) (w : World) (hv : Labels w v ls) (hk : k < 0 ∨ 3 < k) :
    Calls Try.prog 19 #[.agg #[.int .i64 k, .string (bs n), .string (bs x), u], v] w fun e w' => e = .returned (.bool false) ∧ Below w.heap.size w w' := by
  have h0 : (k == 0) = false := by rw [beq_eq_false_iff_ne]; omega
  have h1 : (k == 1) = false := by rw [beq_eq_false_iff_ne]; omega
  have h2 : (k == 2) = false := by rw [beq_eq_false_iff_ne]; omega
  have h3 : (k == 3) = false := by rw [beq_eq_false_iff_ne]; omega
  clear hk
  go_enter Try.func19, Try.ntmps19
  go_wp2_with fail
  refine (refGet_any v ls n _ (hv.below ((Below.refl _ _).alloc (Nat.le_refl _) _))).mono ?_
  rintro e w' ⟨rfl, rfl⟩
  go_wp2_with fail
  go_ret
  exact ⟨rfl, (Below.refl _ _).alloc (Nat.le_refl _) _⟩
theorem refOne_any (k : Int) (n x : Bytes) (u v : Value) (ss : List Bytes) (ls : List Lab) (w : World) (hv : Labels w v ls) (hu : Strs w u ss) (hx : x.length ≤ 1000000000000) (hy : (getL ls n).length ≤ 1000000000000) :
    Calls Try.prog 19 #[.agg #[.int .i64 k, .string (bs n), .string (bs x), u], v] w fun e w' => e = .returned (.bool (oneB k n x ss ls)) ∧ Below w.heap.size w w' := by
  by_cases h : k < 0 ∨ 3 < k
  · have e : oneB k n x ss ls = false := by unfold oneB; rw [if_neg (by omega), if_neg (by omega), if_neg (by omega), if_neg (by omega)]
    rw [e]; exact refOne_bad k n x u v ls w hv h
  · rcases (show k = 0 ∨ k = 1 ∨ k = 2 ∨ k = 3 by omega) with rfl | rfl | rfl | rfl
    · exact refOne_0 n x u v ls w hv
    · exact refOne_1 n x u v ls w hv
    · exact refOne_2 n x u v ls w hv hx hy
    · exact refOne_3 n x u v ls w hv ss hu

/-! ### slices of matchers -/
structure Mat where
  k : Int
  n : Bytes
  x : Bytes
  ss : List Bytes
def noMat : Mat := ⟨0, [], [], []⟩
def oneM (m : Mat) (ls : List Lab) : Bool := oneB m.k m.n m.x m.ss ls
def allM (ms : List Mat) (ls : List Lab) : Bool := ms.all fun m => oneM m ls

def Matchers (w : World) (v : Value) (ms : List Mat) : Prop :=
  ∃ a cap, v = .slice a ms.length cap ∧ ms.length ≤ cap ∧ cap ≤ 9223372036854775807 ∧
    (ms ≠ [] → ∃ b off, a = some ⟨b, off, none⟩ ∧ b < w.heap.size ∧ ∀ i, i < ms.length →
      w.cell? ⟨b, off + i * 4, none⟩ = some (.int .i64 (ms.getD i noMat).k) ∧ w.cell? ⟨b, off + i * 4 + 1, none⟩ = some (.string (bs (ms.getD i noMat).n)) ∧
      w.cell? ⟨b, off + i * 4 + 2, none⟩ = some (.string (bs (ms.getD i noMat).x)) ∧ ∃ u, w.cell? ⟨b, off + i * 4 + 3, none⟩ = some u ∧ Strs w u (ms.getD i noMat).ss)
theorem Matchers.below {w w' : World} {v : Value} {ms : List Mat} (h : Matchers w v ms) (hb : Below w.heap.size w w') : Matchers w' v ms := by
  obtain ⟨a, cap, hv, h1, h2, h3⟩ := h
  refine ⟨a, cap, hv, h1, h2, fun hx => ?_⟩
  obtain ⟨b, off, ha, hlt, hc⟩ := h3 hx
  refine ⟨b, off, ha, Nat.lt_of_lt_of_le hlt hb.size, fun i hi => ?_⟩
  obtain ⟨g1, g2, g3, u, g4, g5⟩ := hc i hi
  exact ⟨(hb.cell (p := ⟨b, off + i * 4, none⟩) hlt).trans g1, (hb.cell (p := ⟨b, off + i * 4 + 1, none⟩) hlt).trans g2, (hb.cell (p := ⟨b, off + i * 4 + 2, none⟩) hlt).trans g3, u, (hb.cell (p := ⟨b, off + i * 4 + 3, none⟩) hlt).trans g4, g5.below hb⟩
theorem Matchers.at_ {w : World} {a : Option Addr} {n cap : Nat} {ms : List Mat} (h : Matchers w (.slice a n cap) ms) {i : Nat} (hi : i < ms.length) :
    ∃ b off u, a = some ⟨b, off, none⟩ ∧ b < w.heap.size ∧ w.cell? ⟨b, off + i * 4, none⟩ = some (.int .i64 (ms.getD i noMat).k) ∧ w.cell? ⟨b, off + i * 4 + 1, none⟩ = some (.string (bs (ms.getD i noMat).n)) ∧
      w.cell? ⟨b, off + i * 4 + 2, none⟩ = some (.string (bs (ms.getD i noMat).x)) ∧ w.cell? ⟨b, off + i * 4 + 3, none⟩ = some u ∧ Strs w u (ms.getD i noMat).ss := by
  obtain ⟨a', cap', hv, h1, h2, h3⟩ := h
  obtain ⟨b, off, ha, hlt, hc⟩ := h3 (by intro e; subst e; simp at hi)
  obtain ⟨g1, g2, g3, u, g4, g5⟩ := hc i hi
  simp only [Value.slice.injEq] at hv
  exact ⟨b, off, u, by rw [hv.1, ha], hlt, g1, g2, g3, g4, g5⟩
theorem Matchers.nil (w : World) : Matchers w (.slice none 0 0) [] := ⟨none, 0, rfl, Nat.le_refl _, by omega, fun h => absurd rfl h⟩
theorem drop_mat {ms : List Mat} {k : Nat} (h : k < ms.length) : ms.drop k = ms.getD k noMat :: ms.drop (k + 1) := by
  rw [List.drop_eq_getElem_cons h]; simp [List.getD, List.getElem?_eq_getElem h]
theorem mem_mat {ms : List Mat} {k : Nat} (h : k < ms.length) : ms.getD k noMat ∈ ms := by
  have : ms.getD k noMat = ms[k] := by simp [List.getD, List.getElem?_eq_getElem h]
  rw [this]; exact List.getElem_mem h
theorem allM_no {ms : List Mat} {ls : List Lab} {k : Nat} (h : k < ms.length) (e : oneM (ms.getD k noMat) ls = false) : allM (ms.drop k) ls = false := by
  rw [drop_mat h]; simp only [allM, List.all_cons]; rw [e]; rfl
theorem allM_yes {ms : List Mat} {ls : List Lab} {k : Nat} (h : k < ms.length) (e : oneM (ms.getD k noMat) ls = true) : allM (ms.drop (k + 1)) ls = allM (ms.drop k) ls := by
  rw [drop_mat h]; simp only [allM, List.all_cons]; rw [e]; rfl

set_option maxRecDepth 100000 in
set_option maxHeartbeats 1000000 in
theorem refAll_any (v u : Value) (ms : List Mat) (ls : List Lab) (w : World) (hm : Matchers w v ms) (hl : Labels w u ls) (hx : ∀ m ∈ ms, m.x.length ≤ 1000000000000) (hy : wt ls ≤ 1000000000000) :
    Calls Try.prog 31 #[v, u] w fun e w' => e = .returned (.bool (allM ms ls)) ∧ Below w.heap.size w w' := by
  have HM := Lib.hid hm
  have HL := Lib.hid hl
  have HX := Lib.hid hx
  have HW := Lib.hid (fun n => Nat.le_trans (getL_len ls n) hy)
  obtain ⟨a, cap, rfl, h1, h2, -⟩ := hm
  clear hl hx
  go_enter Try.func31, Try.ntmps31
  go_wp2_with fail
  go_loopw [5] (fun i wr => ∃ k : Nat, k ≤ ms.length ∧ i = .int .i64 k ∧ allM (ms.drop k) ls = allM ms ls ∧ Below w.heap.size w wr)
    (fun i _ => ms.length - (intOf i).toNat)
  case atStart => exact ⟨0, Nat.zero_le _, rfl, rfl, Below.refl _ _⟩
  case round =>
    obtain ⟨k, hk, rfl, hg, hbel⟩ := hrel
    have HG := Lib.hid hg
    clear hg
    by_cases hlt : k < ms.length
    · obtain ⟨b, off, uu, rfl, hb, c1, c2, c3, c4, hu⟩ := (HM.out.below hbel).at_ hlt
      have HN := Lib.hid (fun e => allM_no (ls := ls) hlt e)
      have HY := Lib.hid (fun e => allM_yes (ls := ls) hlt e)
      have HXX := Lib.hid (HX.out _ (mem_mat hlt))
      have HU := Lib.hid hu
      clear hu
      generalize ms.getD k noMat = m at *
      cases e : oneM m ls with
      | true =>
        have HE := Lib.hid ((HY.out e).trans HG.out)
        have HEE := Lib.hid e
        clear e
        go_wp2_with (go_at_call 19; refine (is_b (c := true) (refOne_any m.k m.n m.x uu u m.ss ls _ (HL.out.below hbel) HU.out HXX.out (HW.out _)) HEE.out).mono ?_; rintro e w1 ⟨rfl, hb1⟩)
        go_roundw
        case rel => exact ⟨k + 1, by omega, by go_num, HE.out, hbel.trans (hb1.mono hbel.size)⟩
        case measure => simp [intOf]; omega
      | false =>
        have HE := Lib.hid (HG.out.symm.trans (HN.out e))
        have HEE := Lib.hid e
        clear e
        go_wp2_with (go_at_call 19; refine (is_b (c := false) (refOne_any m.k m.n m.x uu u m.ss ls _ (HL.out.below hbel) HU.out HXX.out (HW.out _)) HEE.out).mono ?_; rintro e w1 ⟨rfl, hb1⟩)
        go_ret
        exact ⟨by rw [HE.out]; rfl, hbel.trans (hb1.mono hbel.size)⟩
    · have HE := Lib.hid (show allM ms ls = true by rw [← HG.out, List.drop_eq_nil_of_le (by omega)]; rfl)
      go_wp2_with fail
      go_ret
      exact ⟨by rw [HE.out]; rfl, hbel⟩

set_option maxRecDepth 100000 in
set_option maxHeartbeats 1000000 in
theorem all_any (v u : Value) (ms : List Mat) (ls : List Lab) (w : World) (hm : Matchers w v ms) (hl : Labels w u ls) (hx : ∀ m ∈ ms, m.x.length ≤ 1000000000000) (hy : wt ls ≤ 1000000000000) :
    Calls Try.prog 23 #[v, u] w fun e w' => e = .returned (.bool (allM ms ls)) ∧ Below w.heap.size w w' := by
  have HM := Lib.hid hm
  have HL := Lib.hid hl
  have HX := Lib.hid hx
  have HW := Lib.hid (fun n => Nat.le_trans (getL_len ls n) hy)
  obtain ⟨a, cap, rfl, h1, h2, -⟩ := hm
  clear hl hx
  go_enter Try.func23, Try.ntmps23
  go_wp2_with fail
  go_loopw [9] (fun i wr => ∃ k : Nat, k ≤ ms.length ∧ i = .int .i64 k ∧ allM (ms.drop k) ls = allM ms ls ∧ Below w.heap.size w wr)
    (fun i _ => ms.length - (intOf i).toNat)
  case atStart => exact ⟨0, Nat.zero_le _, rfl, rfl, Below.refl _ _⟩
  case round =>
    obtain ⟨k, hk, rfl, hg, hbel⟩ := hrel
    have HG := Lib.hid hg
    clear hg
    by_cases hlt : k < ms.length
    · obtain ⟨b, off, uu, rfl, hb, c1, c2, c3, c4, hu⟩ := (HM.out.below hbel).at_ hlt
      have HN := Lib.hid (fun e => allM_no (ls := ls) hlt e)
      have HY := Lib.hid (fun e => allM_yes (ls := ls) hlt e)
      have HXX := Lib.hid (HX.out _ (mem_mat hlt))
      have HU := Lib.hid hu
      obtain ⟨ua, uc, rfl, -⟩ := hu
      generalize ms.getD k noMat = m at *
      have hal : ∀ o, Below wr.heap.size wr (wr.alloc o) := fun o => (Below.refl _ _).alloc (Nat.le_refl _) o
      have HAL := Lib.hid hal
      clear hal
      cases e : oneM m ls with
      | true =>
        have HE := Lib.hid ((HY.out e).trans HG.out)
        have HEE := Lib.hid e
        clear e
        go_wp2_with (go_at_call 17; refine (is_b (c := true) (one_any m.k m.n m.x _ u m.ss ls _ ((HL.out.below hbel).below (HAL.out _)) (HU.out.below (HAL.out _)) HXX.out (HW.out _)) HEE.out).mono ?_; rintro e w1 ⟨rfl, hb1⟩)
        go_roundw
        case rel => exact ⟨k + 1, by omega, by go_num, HE.out, (hbel.alloc hbel.size _).trans (hb1.mono (Nat.le_trans hbel.size (HAL.out _).size))⟩
        case measure => simp [intOf]; omega
      | false =>
        have HE := Lib.hid (HG.out.symm.trans (HN.out e))
        have HEE := Lib.hid e
        clear e
        go_wp2_with (go_at_call 17; refine (is_b (c := false) (one_any m.k m.n m.x _ u m.ss ls _ ((HL.out.below hbel).below (HAL.out _)) (HU.out.below (HAL.out _)) HXX.out (HW.out _)) HEE.out).mono ?_; rintro e w1 ⟨rfl, hb1⟩)
        go_ret
        exact ⟨by rw [HE.out]; rfl, (hbel.alloc hbel.size _).trans (hb1.mono (Nat.le_trans hbel.size (HAL.out _).size))⟩
    · have HE := Lib.hid (show allM ms ls = true by rw [← HG.out, List.drop_eq_nil_of_le (by omega)]; rfl)
      go_wp2_with fail
      go_ret
      exact ⟨by rw [HE.out]; rfl, hbel⟩

end Go.Proofs.Ytamdkmcdleilpaa
