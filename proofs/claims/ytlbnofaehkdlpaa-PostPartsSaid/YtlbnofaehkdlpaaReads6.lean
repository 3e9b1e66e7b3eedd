/-
  The walks of the functions of ints that only read: Rises, both ways; Same; Has.
-/
import Derived.Test.YtlbnofaehkdlpaaInts6
import Derived.Test.YtlbnofaehkdlpaaAdj6
namespace Go.Proofs.Ytlbnofaehkdlpaa
open Go.RowKit

theorem drewE (w : World) (n m : Nat) : ∃ k, (w.drewN n).drewN m = w.drewN k := ⟨_, World.drewN_drewN _ _ _⟩
theorem drewI (w : World) (n : Nat) : ∃ k, w.drewN n = w.drewN k := ⟨_, rfl⟩

set_option maxRecDepth 100000 in
set_option maxHeartbeats 400000 in
theorem postRises_any (v : Value) (xs : List Int) (w : World) (hv : Ints w v xs) :
    Calls Try.prog 12 #[v] w fun e w' => e = .returned (.bool (risesB xs)) ∧ ∃ n, w' = w.drewN n := by
  obtain ⟨a, cap, rfl, h1, h2, h3⟩ := hv
  go_enter Try.func12, Try.ntmps12
  go_wp2
  go_loopw [6] (fun i wr => ∃ k : Nat, k ≤ xs.length ∧ i = .int .i64 k ∧ Adj xs k ∧ ∃ n, wr = w.drewN n)
    (fun i _ => xs.length - (intOf i).toNat)
  case atStart => exact ⟨0, Nat.zero_le _, rfl, fun i _ h => absurd h (by omega), 0, rfl⟩
  case round =>
    obtain ⟨k, hk, rfl, hadj, n, rfl⟩ := hrel
    by_cases hlt : k < xs.length
    · obtain ⟨b, off, rfl, hb, hcell⟩ := h3 (by intro h; rw [h] at hlt; simp at hlt)
      by_cases h0 : k = 0
      · have Hs := Lib.hid (hadj.succ (.inl h0))
        subst h0
        clear hadj h3
        go_wp2_with fail
        go_quiet (fail)
        go_wp2_with fail
        go_roundw
        case rel => exact ⟨1, by omega, by go_num, Hs.out, by first | exact ⟨_, rfl⟩ | exact drewE _ _ _⟩
        case measure => simp [intOf]; omega
      · have hx : w.cell? ⟨b, off + k, none⟩ = some (.int .i64 (xs.getD k 0)) := hcell k hlt
        have hy : w.cell? ⟨b, off + (k - 1), none⟩ = some (.int .i64 (xs.getD (k - 1) 0)) := hcell (k - 1) (by omega)
        have hp : 0 < k := by omega
        have HR := Lib.hid (fun h => risesB_no (k := k) hp hlt h)
        have HA := Lib.hid (fun h => hadj.succ (.inr h))
        clear hadj h3 h0 hcell
        generalize xs.getD k 0 = x at *
        generalize xs.getD (k - 1) 0 = y at *
        by_cases hxy : x ≤ y
        · go_wp2_with fail
          go_quiet (fail)
          go_wp2_with fail
          go_ret
          exact ⟨by rw [HR.out (by omega)]; rfl, by first | exact ⟨_, rfl⟩ | exact drewE _ _ _⟩
        · go_wp2_with fail
          go_quiet (fail)
          go_wp2_with fail
          go_roundw
          case rel => exact ⟨k + 1, by omega, by go_num, HA.out (by omega), by first | exact ⟨_, rfl⟩ | exact drewE _ _ _⟩
          case measure => simp [intOf]; omega
    · have hkk : k = xs.length := by omega
      have HR := Lib.hid (risesB_yes (hkk ▸ hadj))
      clear hadj h3 hkk
      go_wp2_with fail
      go_ret
      exact ⟨by rw [HR.out]; rfl, drewI _ _⟩

set_option maxRecDepth 100000 in
set_option maxHeartbeats 400000 in
theorem refRises_any (v : Value) (xs : List Int) (w : World) (hv : Ints w v xs) :
    Calls Try.prog 13 #[v] w fun e w' => e = .returned (.bool (risesB xs)) ∧ ∃ n, w' = w.drewN n := by
  obtain ⟨a, cap, rfl, h1, h2, h3⟩ := hv
  go_enter Try.func13, Try.ntmps13
  go_wp2
  go_loopw [3] (fun i wr => ∃ k : Nat, 1 ≤ k ∧ (k ≤ xs.length ∨ k = 1) ∧ i = .int .i64 k ∧ Adj xs k ∧ ∃ n, wr = w.drewN n)
    (fun i _ => xs.length - (intOf i).toNat)
  case atStart => exact ⟨1, by omega, .inr rfl, rfl, fun i _ h => absurd h (by omega), 0, rfl⟩
  case round =>
    obtain ⟨k, hk1, hk, rfl, hadj, n, rfl⟩ := hrel
    by_cases hlt : k < xs.length
    · obtain ⟨b, off, rfl, hb, hcell⟩ := h3 (by intro h; rw [h] at hlt; simp at hlt)
      have hx : w.cell? ⟨b, off + k, none⟩ = some (.int .i64 (xs.getD k 0)) := hcell k hlt
      have hy : w.cell? ⟨b, off + (k - 1), none⟩ = some (.int .i64 (xs.getD (k - 1) 0)) := hcell (k - 1) (by omega)
      have hp : 0 < k := by omega
      have HR := Lib.hid (fun h => risesB_no (k := k) hp hlt h)
      have HA := Lib.hid (fun h => hadj.succ (.inr h))
      clear hadj h3 hcell hk
      generalize xs.getD k 0 = x at *
      generalize xs.getD (k - 1) 0 = y at *
      by_cases hxy : x ≤ y
      · go_wp2_with fail
        go_quiet (fail)
        go_wp2_with fail
        go_ret
        exact ⟨by rw [HR.out (by omega)]; rfl, by first | exact ⟨_, rfl⟩ | exact drewE _ _ _⟩
      · go_wp2_with fail
        go_quiet (fail)
        go_wp2_with fail
        go_roundw
        case rel => exact ⟨k + 1, by omega, .inl (by omega), by go_num, HA.out (by omega), by first | exact ⟨_, rfl⟩ | exact drewE _ _ _⟩
        case measure => simp [intOf]; omega
    · have hadj' : Adj xs xs.length := fun i h0 hi => hadj i h0 (by omega)
      have HR := Lib.hid (risesB_yes hadj')
      clear hadj hadj' h3 hk
      go_wp2_with fail
      go_ret
      exact ⟨by rw [HR.out]; rfl, drewI _ _⟩

set_option maxRecDepth 100000 in
set_option maxHeartbeats 400000 in
theorem same_any (v u : Value) (xs ys : List Int) (w : World) (hv : Ints w v xs) (hu : Ints w u ys) :
    Calls Try.prog 14 #[v, u] w fun e w' => e = .returned (.bool (sameB xs ys)) ∧ ∃ n, w' = w.drewN n := by
  obtain ⟨a, cap, rfl, h1, h2, h3⟩ := hv
  obtain ⟨a', cap', rfl, h1', h2', h3'⟩ := hu
  by_cases hl : xs.length = ys.length
  · have hb0 : (((xs.length : Nat) : Int) != ((ys.length : Nat) : Int)) = false := by simp [hl]
    have Hl := Lib.hid hl
    have hl1 : xs.length ≤ ys.length := by omega
    have hl2 : ys.length ≤ xs.length := by omega
    clear hl
    go_enter Try.func14, Try.ntmps14
    go_wp2_with fail
    go_loopw [5] (fun i wr => ∃ k : Nat, k ≤ xs.length ∧ i = .int .i64 k ∧ AgreeN xs ys k ∧ ∃ n, wr = w.drewN n)
      (fun i _ => xs.length - (intOf i).toNat)
    case atStart => exact ⟨0, Nat.zero_le _, rfl, fun i h => absurd h (by omega), 0, rfl⟩
    case round =>
      obtain ⟨k, hk, rfl, hadj, n, rfl⟩ := hrel
      by_cases hlt : k < xs.length
      · obtain ⟨b, off, rfl, hb, hcell⟩ := h3 (by intro h; rw [h] at hlt; simp at hlt)
        have hlt' : k < ys.length := by omega
        obtain ⟨b', off', rfl, hb', hcell'⟩ := h3' (by intro h; rw [h] at hlt'; simp at hlt')
        have hx : w.cell? ⟨b, off + k, none⟩ = some (.int .i64 (xs.getD k 0)) := hcell k hlt
        have hy : w.cell? ⟨b', off' + k, none⟩ = some (.int .i64 (ys.getD k 0)) := hcell' k hlt'
        have HR := Lib.hid (fun h => sameB_no (xs := xs) (ys := ys) (k := k) h)
        have HA := Lib.hid (fun h => hadj.succ h)
        clear hadj h3 h3' hcell hcell'
        generalize xs.getD k 0 = x at *
        generalize ys.getD k 0 = y at *
        by_cases hxy : x = y
        · have hne : (x != y) = false := by simp [hxy]
          have HE := Lib.hid hxy
          clear hxy
          go_wp2_with fail
          go_quiet (fail)
          go_wp2_with fail
          go_roundw
          case rel => exact ⟨k + 1, by omega, by go_num, HA.out HE.out, by first | exact ⟨_, rfl⟩ | exact drewE _ _ _⟩
          case measure => simp [intOf]; omega
        · have hne : (x != y) = true := by simp [hxy]
          have HE := Lib.hid hxy
          clear hxy
          go_wp2_with fail
          go_quiet (fail)
          go_wp2_with fail
          go_ret
          exact ⟨by rw [HR.out HE.out]; rfl, by first | exact ⟨_, rfl⟩ | exact drewE _ _ _⟩
      · have hkk : k = xs.length := by omega
        have HR := Lib.hid (sameB_yes Hl.out (hkk ▸ hadj))
        clear hadj h3 h3' hkk
        go_wp2_with fail
        go_ret
        exact ⟨by rw [HR.out]; rfl, drewI _ _⟩
  · have hb0 : (((xs.length : Nat) : Int) != ((ys.length : Nat) : Int)) = true := by rw [bne_iff_ne]; omega
    have Hl := Lib.hid hl
    clear hl h3 h3'
    go_enter Try.func14, Try.ntmps14
    go_wp2_with fail
    go_ret
    exact ⟨by rw [sameB_len Hl.out]; rfl, 0, rfl⟩

set_option maxRecDepth 100000 in
set_option maxHeartbeats 400000 in
theorem refHas_any (v : Value) (xs : List Int) (m : Int) (w : World) (hv : Ints w v xs) :
    Calls Try.prog 21 #[v, .int .i64 m] w fun e w' => e = .returned (.bool (hasB xs m)) ∧ w = w' := by
  obtain ⟨a, cap, rfl, h1, h2, h3⟩ := hv
  go_enter Try.func21, Try.ntmps21
  go_wp2
  go_loop [5] (fun i => ∃ k : Nat, k ≤ xs.length ∧ i = .int .i64 k ∧ NoneN xs m k)
    (fun i => xs.length - (intOf i).toNat)
  case atStart => exact ⟨0, Nat.zero_le _, rfl, fun i h => absurd h (by omega)⟩
  case round =>
    obtain ⟨k, hk, rfl, hadj⟩ := hrel
    by_cases hlt : k < xs.length
    · obtain ⟨b, off, rfl, hb, hcell⟩ := h3 (by intro h; rw [h] at hlt; simp at hlt)
      have hx : w.cell? ⟨b, off + k, none⟩ = some (.int .i64 (xs.getD k 0)) := hcell k hlt
      have HR := Lib.hid (fun h => hasB_yes (xs := xs) (n := m) (k := k) hlt h)
      have HA := Lib.hid (fun h => hadj.succ h)
      clear hadj h3 hcell
      generalize xs.getD k 0 = x at *
      by_cases hxy : x = m
      · have hne : (x == m) = true := by simp [hxy]
        have HE := Lib.hid hxy
        clear hxy
        go_wp2_with fail
        go_ret
        exact ⟨by rw [HR.out HE.out]; rfl, rfl⟩
      · have hne : (x == m) = false := by simp [hxy]
        have HE := Lib.hid hxy
        clear hxy
        go_wp2_with fail
        go_round
        case rel => exact ⟨k + 1, by omega, by go_num, HA.out HE.out⟩
        case measure => simp [intOf]; omega
    · have hkk : k = xs.length := by omega
      have HR := Lib.hid (hasB_no (hkk ▸ hadj))
      clear hadj h3 hkk
      go_wp2_with fail
      go_ret
      exact ⟨by rw [HR.out]; rfl, rfl⟩

end Go.Proofs.Ytlbnofaehkdlpaa
