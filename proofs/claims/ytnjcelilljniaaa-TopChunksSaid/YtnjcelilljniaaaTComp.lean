/-
  slices.CompactFunc of samples whose times rise: they stay.
-/
import Derived.Test.YtnjcelilljniaaaTIns
namespace Go.Proofs.Ytnjcelilljniaaa
open Go.RowKit

def eqV : Value := .func (.func 45) #[] #[]
set_option maxRecDepth 100000 in
theorem eqT_any (a b c d : Int) (w : World) (h : a ≠ c) :
    Calls Try.prog 45 #[.agg #[.int .i64 a, .int .i64 b], .agg #[.int .i64 c, .int .i64 d]] w fun e w' => e = .returned (.bool false) ∧ Below w.heap.size w w' := by
  have hac : (a == c) = false := by simpa using h
  have HF := Lib.hid h
  clear h
  go_enter Try.func45, Try.ntmps45
  go_wp2_with fail
  go_ret
  exact ⟨rfl, ((Below.refl _ _).alloc (Nat.le_refl _) _).alloc (by simp) _⟩

/-- Times rise. -/
def RiseT (l : List Smp) : Prop := ∀ i, 1 ≤ i → i < l.length → (l.getD (i - 1) (0, 0)).1 < (l.getD i (0, 0)).1

theorem keepC {w' w'' : World} {g : Nat} {a b c d : Nat} {x y z u : Value} (h : w'.cell? ⟨g, a, none⟩ = some x ∧ w'.cell? ⟨g, b, none⟩ = some y ∧ w'.cell? ⟨g, c, none⟩ = some z ∧ w'.cell? ⟨g, d, none⟩ = some u) (hb : Below w'.heap.size w' w'') :
    w''.cell? ⟨g, a, none⟩ = some x ∧ w''.cell? ⟨g, b, none⟩ = some y ∧ w''.cell? ⟨g, c, none⟩ = some z ∧ w''.cell? ⟨g, d, none⟩ = some u := by
  have hg : g < w'.heap.size := World.block_lt_of_cell? w' _ h.1
  exact ⟨(hb.cell (p := ⟨g, a, none⟩) hg).trans h.1, (hb.cell (p := ⟨g, b, none⟩) hg).trans h.2.1, (hb.cell (p := ⟨g, c, none⟩) hg).trans h.2.2.1, (hb.cell (p := ⟨g, d, none⟩) hg).trans h.2.2.2⟩

set_option maxRecDepth 100000 in
set_option maxHeartbeats 2000000 in
theorem compact_any (v : Value) (n : Nat) (l : List Smp) (w : World) (hv : Samples w v l) (hn : l.length = n) (hr : RiseT l) :
    Calls Try.prog 44 #[v, eqV] w fun e w' => e = .returned v ∧ Below w.heap.size w w' := by
  have HV := Lib.hid hv
  obtain ⟨a, cap, rfl, h1, h2, -⟩ := hv
  have HR := Lib.hid hr
  have HN := Lib.hid hn
  rw [hn] at HV h1
  rw [hn]
  clear hr hn
  unfold eqV
  by_cases hn2 : n < 2
  · go_enter Try.func44, Try.ntmps44
    go_wp2_with fail
    go_ret
    exact ⟨rfl, Below.refl _ _⟩
  · go_enter Try.func44, Try.ntmps44
    go_wp2_with fail
    go_loopw [5] (fun i wr => ∃ k : Nat, i = .int .i64 k ∧ 1 ≤ k ∧ k ≤ n ∧ Below w.heap.size w wr) (fun i _ => n - (intOf i).toNat)
    case atStart => exact ⟨1, rfl, Nat.le_refl _, by omega, Below.refl _ _⟩
    case round =>
      obtain ⟨k, rfl, hk1, hk, hb⟩ := hrel
      have HB := Lib.hid hb
      have HS := Lib.hid (HV.out.below hb)
      clear hb
      by_cases hlt : k < n
      · obtain ⟨g, off, ha, hgl, c0, c1⟩ := HS.out.at_ (i := k) (by rw [HN.out]; exact hlt)
        obtain ⟨g', off', ha', -, d0, d1⟩ := HS.out.at_ (i := k - 1) (by rw [HN.out]; omega)
        subst ha
        simp only [Option.some.injEq, Addr.mk.injEq, and_true] at ha'
        obtain ⟨rfl, rfl⟩ := ha'
        have hne := HR.out k hk1 (by rw [HN.out]; exact hlt)
        have HC := Lib.hid (fun w => eqT_any (l.getD k (0, 0)).1 (l.getD k (0, 0)).2 (l.getD (k - 1) (0, 0)).1 (l.getD (k - 1) (0, 0)).2 w (by omega))
        clear hne
        generalize (l.getD k (0, 0)).1 = x0 at *
        generalize (l.getD k (0, 0)).2 = x1 at *
        generalize (l.getD (k - 1) (0, 0)).1 = y0 at *
        generalize (l.getD (k - 1) (0, 0)).2 = y1 at *
        obtain ⟨q, hq⟩ : ∃ q, q = k - 1 := ⟨_, rfl⟩
        rw [← hq] at d0 d1
        have hkq : k = q + 1 := by omega
        subst hkq
        have hz0 : (0 : Int) ≤ ((q + 1 : Nat) : Int) := by omega
        have hz1 : ((q + 1 : Nat) : Int) < (n : Int) := by omega
        have hz2 : (0 : Int) ≤ ((q + 1 : Nat) : Int) - 1 := by omega
        have hz4 : (1 : Int) ≤ ((q + 1 : Nat) : Int) := by omega
        have hz3 : ((q + 1 : Nat) : Int) - 1 < (n : Int) := by omega
        have hww : IntKind.i64.wrap (((q + 1 : Nat) : Int) - 1) = ((q + 1 : Nat) : Int) - 1 := IntWalk.i64_in _ (by omega)
        have htn : (((q + 1 : Nat) : Int) - 1).toNat = q := by omega
        have htn2 : (((q + 1 : Nat) : Int)).toNat = q + 1 := by omega
        clear hq
        obtain ⟨j, hj⟩ : ∃ j, j = q + 1 := ⟨_, rfl⟩
        rw [← hj] at hz0 hz1 hz2 hz3 hz4 hww htn htn2 c0 c1 hk1 hk hlt ⊢
        have hjq := Lib.hid hj
        clear hj
        go_wp2_with fail
        go_region_held3 (fun w' => w'.cell? ⟨g, off + j * 2, none⟩ = some (.int .i64 x0) ∧ w'.cell? ⟨g, off + j * 2 + 1, none⟩ = some (.int .i64 x1) ∧ w'.cell? ⟨g, off + q * 2, none⟩ = some (.int .i64 y0) ∧ w'.cell? ⟨g, off + q * 2 + 1, none⟩ = some (.int .i64 y1))
          (first | exact keepC (by assumption) hb1 | exact keepC (by assumption) (drE hb1) | go_keep)
          (first | (go_at_call 45; refine (HC.out _).mono ?_; rintro e w2 ⟨rfl, hb1⟩))
        have HB2 := Lib.hid (HB.out.trans ((drE hb1).mono HB.out.size))
        clear hb1
        go_wp2_with fail
        go_roundw
        case rel => exact ⟨j + 1, by go_num, by omega, by omega, HB2.out⟩
        case measure => simp [intOf]; omega
      · have hke : k = n := by omega
        subst hke
        go_wp2_with fail
        go_ret
        exact ⟨rfl, HB.out⟩

end Go.Proofs.Ytnjcelilljniaaa
