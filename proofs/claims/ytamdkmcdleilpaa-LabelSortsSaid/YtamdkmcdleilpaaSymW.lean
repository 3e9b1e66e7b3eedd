/-
  slices.symMergeCmpFunc, for whatever two neighbours that are in order.
-/
import Derived.Test.YtamdkmcdleilpaaSym3
namespace Go.Proofs.Ytamdkmcdleilpaa
open Go.RowKit

theorem len_one {L : List El} (h : L.length = 1) : ∃ x, L = [x] := by
  cases L with
  | nil => cases h
  | cons x r => cases r with
    | nil => exact ⟨x, rfl⟩
    | cons y r => simp at h
theorem symMerge_fuel {g cap : Nat} : ∀ (F : Nat) (P L R S : List El) (l : List El) (a m b n : Nat) (w : World), L.length + R.length ≤ F → RowE w g cap l → l = P ++ (L ++ (R ++ S)) → a = P.length → m = a + L.length → b = m + R.length → n = l.length → n ≤ 1000000 → SortedL ltE L → SortedL ltE R → 0 < L.length → 0 < R.length →
    Calls Try.prog 91 #[.slice (some ⟨g, 0, none⟩) n cap, .int .i64 a, .int .i64 m, .int .i64 b, cmpV] w
      fun e w' => e = .returned (.tuple #[]) ∧ RowE w' g cap (P ++ (mergeL ltE L R ++ S)) ∧ w.grownBy w' (some g) := by
  intro F
  induction F with
  | zero => intro P L R S l a m b n w hF h hl ha hm hb hn hle hsL hsR h1 h2; exfalso; omega
  | succ F IH =>
    intro P L R S l a m b n w hF h hl ha hm hb hn hle hsL hsR h1 h2
    by_cases hL : L.length = 1
    · obtain ⟨x, rfl⟩ := len_one hL
      exact sym1_any P x R S a m b n w h hl ha hm hb hn hle hsR
    · by_cases hR : R.length = 1
      · obtain ⟨y, rfl⟩ := len_one hR
        exact sym2_any P L y S a m b n w h hl ha hm hb hn hle hsL hL
      · exact sym3_any P L R S a m b n w h hl ha hm hb hn hle hsL hsR (by omega) (by omega) (fun P' L' R' S' l' a' m' b' n' w' hlt => IH P' L' R' S' l' a' m' b' n' w' (by omega))
theorem symMerge_any {g cap : Nat} (P L R S : List El) {l : List El} (a m b n : Nat) (w : World) (h : RowE w g cap l) (hl : l = P ++ (L ++ (R ++ S))) (ha : a = P.length) (hm : m = a + L.length) (hb : b = m + R.length) (hn : n = l.length) (hle : n ≤ 1000000) (hsL : SortedL ltE L) (hsR : SortedL ltE R) (h1 : 0 < L.length) (h2 : 0 < R.length) :
    Calls Try.prog 91 #[.slice (some ⟨g, 0, none⟩) n cap, .int .i64 a, .int .i64 m, .int .i64 b, cmpV] w
      fun e w' => e = .returned (.tuple #[]) ∧ RowE w' g cap (P ++ (mergeL ltE L R ++ S)) ∧ w.grownBy w' (some g) :=
  symMerge_fuel _ P L R S l a m b n w (Nat.le_refl _) h hl ha hm hb hn hle hsL hsR h1 h2

end Go.Proofs.Ytamdkmcdleilpaa
