/-
  The walks of post.And, Or, Not, Has; slices.BinarySearch, Clone; the reference's And, Not, Or.
-/
import Derived.Test.YtlbnofaehkdlpaaMerge6
import Derived.Test.YtlbnofaehkdlpaaReads6
namespace Go.Proofs.Ytlbnofaehkdlpaa
open Go.RowKit

theorem andW : Wishes 23 (fun a b => a && b) := by
  refine ⟨fun args w => by kernel_rfl, fun a b w => ?_⟩
  cases a <;> cases b <;>
  · go_enter Try.func23, Try.ntmps23
    go_wp2
    go_ret
    exact ⟨rfl, rfl⟩
theorem notW : Wishes 25 (fun a b => a && !b) := by
  refine ⟨fun args w => by kernel_rfl, fun a b w => ?_⟩
  cases a <;> cases b <;>
  · go_enter Try.func25, Try.ntmps25
    go_wp2
    go_ret
    exact ⟨rfl, rfl⟩
theorem orW : Wishes 24 (fun _ _ => true) := by
  refine ⟨fun args w => by kernel_rfl, fun a b w => ?_⟩
  go_enter Try.func24, Try.ntmps24
  go_wp2
  go_ret
  exact ⟨rfl, rfl⟩

/-- The merge's list, told by what is in it. -/
theorem mg_told (wish : Bool → Bool → Bool) (xs ys : List Int) (hx : Rising xs) (hy : Rising ys) :
    Rising (mg wish (xs.length + ys.length) xs ys) ∧ (mg wish (xs.length + ys.length) xs ys).length ≤ xs.length + ys.length ∧
      ∀ m, m ∈ mg wish (xs.length + ys.length) xs ys ↔ ((m ∈ xs ∨ m ∈ ys) ∧ wish (Inn xs m) (Inn ys m) = true) :=
  ⟨mg_rising _ _ _ _ (Nat.le_refl _) hx hy, mg_le _ _ _ _, mg_mem _ _ _ _ (Nat.le_refl _) hx hy⟩

set_option maxRecDepth 100000 in
theorem and_any (v u : Value) (xs ys : List Int) (w : World) (hv : Ints w v xs) (hu : Ints w u ys) (hx : Rising xs) (hy : Rising ys) (hlen : xs.length + ys.length ≤ 1000000000000) :
    Calls Try.prog 9 #[v, u] w fun e w' => ∃ v' r, e = .returned v' ∧ Own w' w.heap.size v' r ∧ Below w.heap.size w w' ∧ Rising r ∧ r.length ≤ xs.length + ys.length ∧ ∀ m, m ∈ r ↔ m ∈ xs ∧ m ∈ ys := by
  go_enter Try.func9, Try.ntmps9
  go_wp2_with fail
  refine (merge_any _ _ andW v u xs ys _ hv hu hlen).mono ?_
  rintro e w1 ⟨v1, rfl, hown, hbel⟩
  go_wp2_with fail
  go_ret
  obtain ⟨h1, h2, h3⟩ := mg_told (fun a b => a && b) xs ys hx hy
  exact ⟨_, _, rfl, hown, hbel, h1, h2, fun m => by rw [h3]; simp [Inn]; intro a b; exact .inl a⟩

set_option maxRecDepth 100000 in
theorem not_any (v u : Value) (xs ys : List Int) (w : World) (hv : Ints w v xs) (hu : Ints w u ys) (hx : Rising xs) (hy : Rising ys) (hlen : xs.length + ys.length ≤ 1000000000000) :
    Calls Try.prog 11 #[v, u] w fun e w' => ∃ v' r, e = .returned v' ∧ Own w' w.heap.size v' r ∧ Below w.heap.size w w' ∧ Rising r ∧ r.length ≤ xs.length + ys.length ∧ ∀ m, m ∈ r ↔ m ∈ xs ∧ m ∉ ys := by
  go_enter Try.func11, Try.ntmps11
  go_wp2_with fail
  refine (merge_any _ _ notW v u xs ys _ hv hu hlen).mono ?_
  rintro e w1 ⟨v1, rfl, hown, hbel⟩
  go_wp2_with fail
  go_ret
  obtain ⟨h1, h2, h3⟩ := mg_told (fun a b => a && !b) xs ys hx hy
  exact ⟨_, _, rfl, hown, hbel, h1, h2, fun m => by rw [h3]; simp [Inn]; intro a b; exact .inl a⟩

set_option maxRecDepth 100000 in
theorem or_any (v u : Value) (xs ys : List Int) (w : World) (hv : Ints w v xs) (hu : Ints w u ys) (hx : Rising xs) (hy : Rising ys) (hlen : xs.length + ys.length ≤ 1000000000000) :
    Calls Try.prog 10 #[v, u] w fun e w' => ∃ v' r, e = .returned v' ∧ Own w' w.heap.size v' r ∧ Below w.heap.size w w' ∧ Rising r ∧ r.length ≤ xs.length + ys.length ∧ ∀ m, m ∈ r ↔ m ∈ xs ∨ m ∈ ys := by
  go_enter Try.func10, Try.ntmps10
  go_wp2_with fail
  refine (merge_any _ _ orW v u xs ys _ hv hu hlen).mono ?_
  rintro e w1 ⟨v1, rfl, hown, hbel⟩
  go_wp2_with fail
  go_ret
  obtain ⟨h1, h2, h3⟩ := mg_told (fun _ _ => true) xs ys hx hy
  exact ⟨_, _, rfl, hown, hbel, h1, h2, fun m => by rw [h3]; simp⟩

theorem cmpNaN (n : Int) (w : World) : Calls Try.prog 30 #[.int .i64 n] w fun e w' => e = .returned (.bool false) ∧ w = w' := by
  go_enter Try.func30, Try.ntmps30
  go_wp2_with fail
  go_ret
  exact ⟨rfl, rfl⟩
theorem slicesNaN (n : Int) (w : World) : Calls Try.prog 29 #[.int .i64 n] w fun e w' => e = .returned (.bool false) ∧ w = w' := by
  go_enter Try.func29, Try.ntmps29
  go_wp2_with fail
  go_ret
  exact ⟨rfl, rfl⟩
theorem less_any (a b : Int) (w : World) : Calls Try.prog 28 #[.int .i64 a, .int .i64 b] w fun e w' => e = .returned (.bool (decide (a < b))) ∧ w = w' := by
  go_enter Try.func28, Try.ntmps28
  go_wp2_with fail
  refine (cmpNaN _ _).mono ?_
  rintro e w1 ⟨rfl, rfl⟩
  go_wp2_with fail
  go_ret
  exact ⟨rfl, rfl⟩

/-- What a search answers. -/
def Found (b : Bool) (w : World) (e : Ending) (w' : World) : Prop := ∃ i : Int, e = .returned (.tuple #[.int .i64 i, .bool b]) ∧ w = w'

set_option maxRecDepth 100000 in
set_option maxHeartbeats 1000000 in
theorem search_any (v : Value) (xs : List Int) (m : Int) (w : World) (hv : Ints w v xs) (hx : Rising xs) (hlen : xs.length ≤ 1000000000000) :
    Calls Try.prog 27 #[v, .int .i64 m] w (Found (hasB xs m) w) := by
  obtain ⟨a, cap, rfl, h1, h2, h3⟩ := hv
  have HX := Lib.hid hx
  have H3 := Lib.hid h3
  clear hx h3
  go_enter Try.func27, Try.ntmps27
  go_wp2_with fail
  go_loop [7, 8] (fun i j => ∃ p q : Nat, p ≤ q ∧ q ≤ xs.length ∧ i = .int .i64 p ∧ j = .int .i64 q ∧ Half xs m p q)
    (fun i j => (intOf j).toNat - (intOf i).toNat)
  case atStart => exact ⟨0, _, Nat.zero_le _, Nat.le_refl _, rfl, rfl, Half.start xs m⟩
  case round =>
    obtain ⟨p, q, hpq, hq, rfl, rfl, hh⟩ := hrel
    have HH := Lib.hid hh
    clear hh
    by_cases hlt : p < q
    · obtain ⟨b, off, rfl, hb, hcell⟩ := H3.out (by intro h; rw [h] at hq; simp at hq; omega)
      have hx : w.cell? ⟨b, off + (p + q) / 2, none⟩ = some (.int .i64 (xs.getD ((p + q) / 2) 0)) := hcell _ (by omega)
      have HU := Lib.hid (HH.out.up (h := (p + q) / 2) HX.out (by omega))
      have HD := Lib.hid (HH.out.down (h := (p + q) / 2) HX.out)
      clear hcell
      generalize xs.getD ((p + q) / 2) 0 = y at *
      by_cases hy : y < m
      · go_wp2_with (go_at_call 28; refine (less_any _ _ _).mono ?_; rintro e w' ⟨rfl, rfl⟩)
        go_round
        case rel => exact ⟨(p + q) / 2 + 1, q, by omega, by omega, by go_num, by go_num, HU.out hy⟩
        case measure => simp [intOf]; omega
      · go_wp2_with (go_at_call 28; refine (less_any _ _ _).mono ?_; rintro e w' ⟨rfl, rfl⟩)
        go_round
        case rel => exact ⟨p, (p + q) / 2, by omega, by omega, by go_num, by go_num, HD.out hy⟩
        case measure => simp [intOf]; omega
    · have hpe : p = q := by omega
      subst hpe
      by_cases hl : p < xs.length
      · obtain ⟨b, off, rfl, hb, hcell⟩ := H3.out (by intro h; rw [h] at hl; simp at hl)
        have hx : w.cell? ⟨b, off + p, none⟩ = some (.int .i64 (xs.getD p 0)) := hcell _ (by omega)
        have HY := Lib.hid (fun h => hasB_yes (n := m) hl h)
        have HN := Lib.hid (fun h => Half.no HX.out HH.out (.inr h))
        clear hcell
        generalize xs.getD p 0 = y at *
        by_cases hy : y = m
        · have hd : (y == m) = true := by rw [beq_iff_eq]; exact hy
          have HE := Lib.hid (HY.out hy)
          clear hy
          go_wp2_with (go_at_call 29; refine (slicesNaN _ _).mono ?_; rintro e w' ⟨rfl, rfl⟩)
          go_ret2
          exact ⟨_, by rw [HE.out]; rfl, rfl⟩
        · have hd : (y == m) = false := by rw [beq_eq_false_iff_ne]; exact hy
          have HE := Lib.hid (HN.out hy)
          clear hy
          go_wp2_with (go_at_call 29; refine (slicesNaN _ _).mono ?_; rintro e w' ⟨rfl, rfl⟩)
          go_ret2
          exact ⟨_, by rw [HE.out]; rfl, rfl⟩
      · have HN := Lib.hid (Half.no HX.out HH.out (.inl (by omega)))
        go_wp2_with fail
        go_ret2
        exact ⟨_, by rw [HN.out]; rfl, rfl⟩

theorem has_any (v : Value) (xs : List Int) (m : Int) (w : World) (hv : Ints w v xs) (hx : Rising xs) (hlen : xs.length ≤ 1000000000000) :
    Calls Try.prog 20 #[v, .int .i64 m] w fun e w' => e = .returned (.bool (hasB xs m)) ∧ w = w' := by
  go_enter Try.func20, Try.ntmps20
  go_wp2_with fail
  refine (search_any v xs m _ hv hx hlen).mono ?_
  rintro e w' ⟨i, rfl, rfl⟩
  go_wp2_with fail
  go_ret
  exact ⟨rfl, rfl⟩

end Go.Proofs.Ytlbnofaehkdlpaa
