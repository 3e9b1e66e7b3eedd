/-
  slices.Reverse of samples.
-/
import Derived.Test.YtnjcelilljniaaaTCmp
namespace Go.Proofs.Ytnjcelilljniaaa
open Go.RowKit

/-- The first k and the last k have changed places. -/
def revK (l : List El) : Nat → List El
  | 0 => l
  | k + 1 => swapE (revK l k) k (l.length - 1 - k)
theorem revK_len (l : List El) (k : Nat) : (revK l k).length = l.length := by
  induction k with
  | zero => rfl
  | succ k ih => rw [revK, swapE_len, ih]
theorem revK_get (l : List El) (k : Nat) (hk : 2 * k ≤ l.length) : ∀ i, i < l.length → (revK l k).getD i el0 = if i < k ∨ l.length - k ≤ i then l.getD (l.length - 1 - i) el0 else l.getD i el0 := by
  induction k with
  | zero => intro i hi; rw [if_neg (by omega)]; rfl
  | succ k ih =>
    have ih := ih (by omega)
    intro i hi
    have hlen := revK_len l k
    have e1 := ih k (by omega)
    have e2 := ih (l.length - 1 - k) (by omega)
    rw [if_neg (by omega)] at e1 e2
    unfold revK swapE
    rw [e1, e2]
    have hs : ∀ (m : List El) (p : Nat) (x : El), p < m.length → (m.set p x).getD i el0 = if i = p then x else m.getD i el0 := by
      intro m p x hp
      simp only [List.getD_eq_getElem?_getD, List.getElem?_set]
      by_cases e : p = i
      · subst e; simp [hp]
      · rw [if_neg e, if_neg (fun e' => e e'.symm)]
    rw [hs _ _ _ (by rw [List.length_set, hlen]; omega), hs _ _ _ (by rw [hlen]; omega), ih i hi]
    by_cases h1 : i = l.length - 1 - k
    · rw [if_pos h1, if_pos (by omega)]
      congr 1; omega
    · rw [if_neg h1]
      by_cases h2 : i = k
      · rw [if_pos h2, if_pos (by omega)]
        congr 1; omega
      · rw [if_neg h2]
        by_cases h3 : i < k ∨ l.length - k ≤ i
        · rw [if_pos h3, if_pos (by omega)]
        · rw [if_neg h3, if_neg (by omega)]
theorem ext_getD {a b : List El} (hl : a.length = b.length) (h : ∀ i, i < b.length → a.getD i el0 = b.getD i el0) : a = b := by
  refine List.ext_getElem hl fun i h1 h2 => ?_
  have := h i h2
  simpa [List.getD_eq_getElem?_getD, List.getElem?_eq_getElem h1, List.getElem?_eq_getElem h2] using this
theorem revK_rev (l : List El) (k : Nat) (h1 : 2 * k ≤ l.length) (h2 : l.length ≤ 2 * k + 1) : revK l k = l.reverse := by
  refine ext_getD (by rw [revK_len, List.length_reverse]) fun i hi => ?_
  rw [List.length_reverse] at hi
  rw [revK_get l k h1 i hi]
  have e : l.reverse.getD i el0 = l.getD (l.length - 1 - i) el0 := by
    simp [List.getD_eq_getElem?_getD, List.getElem?_reverse hi]
  rw [e]
  by_cases h3 : i < k ∨ l.length - k ≤ i
  · rw [if_pos h3]
  · rw [if_neg h3]; congr 1; omega

def RevRel (g cap n : Nat) (l : List El) (w : World) (i j : Value) (wr : World) : Prop :=
  ∃ k : Nat, 2 * k ≤ n + 1 ∧ i = .int .i64 k ∧ j = .int .i64 ((n : Int) - 1 - k) ∧ RowE wr g cap (revK l k) ∧ w.grownBy wr (some g)

set_option maxRecDepth 100000 in
set_option maxHeartbeats 4000000 in
theorem reverse_any (g cap n : Nat) (l : List El) (w : World) (h : RowE w g cap l) (hn : l.length = n) (hle : n ≤ 1000000) :
    Calls Try.prog 41 #[.slice (some ⟨g, 0, none⟩) n cap] w fun e w' => e = .returned (.tuple #[]) ∧ RowE w' g cap l.reverse ∧ w.grownBy w' (some g) := by
  have HS0 := Lib.hid (show RevRel g cap n l w (.int .i64 0) (.int .i64 ((n : Int) - 1)) w from ⟨0, by omega, rfl, by simp, h, gb_refl _ _⟩)
  have hcap : n ≤ cap := by rw [← hn]; exact h.1
  have HN := Lib.hid hn
  clear h hn
  go_enter Try.func41, Try.ntmps41
  go_wp2_with fail
  go_loopw [2, 3] (fun i j wr => RevRel g cap n l w i j wr) (fun i _ _ => n - (intOf i).toNat)
  case atStart => exact HS0.out
  case round =>
    clear HS0
    obtain ⟨k, hk, rfl, rfl, hrow, hgb⟩ := hrel
    have HR := Lib.hid hrow
    have HG := Lib.hid hgb
    clear hrow hgb
    by_cases hlt : 2 * k + 1 < n
    · obtain ⟨q, hq⟩ : ∃ q, q = n - 1 - k := ⟨_, rfl⟩
      have hpl : k < (revK l k).length := by rw [revK_len, HN.out]; omega
      have hql : q < (revK l k).length := by rw [revK_len, HN.out]; omega
      have HSw := Lib.hid (HR.out.swap hpl hql)
      have hst : swapE (revK l k) k q = revK l (k + 1) := by rw [revK, HN.out, hq]
      rw [hst] at HSw
      obtain ⟨c0, c1⟩ := HR.out.at_ hpl
      obtain ⟨d0, d1⟩ := HR.out.at_ hql
      have f0 := HR.out.frozen (k * 2)
      have f1 := HR.out.frozen (k * 2 + 1)
      have f2 := HR.out.frozen (q * 2)
      have f3 := HR.out.frozen (q * 2 + 1)
      generalize (revK l k).getD k el0 = x at *
      generalize (revK l k).getD q el0 = y at *
      have hqI : (n : Int) - 1 - (k : Int) = (q : Int) := by omega
      rw [hqI]
      have hkq : k < q := by omega
      have hkn : k < n := by omega
      have hqn : q < n := by omega
      have hE1 := Lib.hid (show (q : Int) - 1 = (n : Int) - 1 - ((k + 1 : Nat) : Int) by omega)
      have hK1 : 2 * (k + 1) ≤ n + 1 := by omega
      have HG2 := Lib.hid (fun v0 v1 v2 v3 p0 p1 p2 p3 => gb_trans HG.out (gb_swap (w := wr) (g := g) v0 v1 v2 v3 p0 p1 p2 p3))
      clear hq hst hpl hql hqI
      simp only [cA, cB] at c0 c1 d0 d1
      go_wp2_with fail
      go_region
      go_wp2_with fail
      go_roundw
      case rel => exact ⟨k + 1, hK1, by go_num, by rw [hE1.out], HSw.out.drew1, gb_drew1 (HG2.out ..)⟩
      case measure => simp [intOf]; omega
    · have HF := Lib.hid (show RowE wr g cap l.reverse by
        have h1 : revK l k = l.reverse ∨ n + 1 = 2 * k := by
          by_cases e : n + 1 = 2 * k
          · exact .inr e
          · exact .inl (revK_rev l k (by rw [HN.out]; omega) (by rw [HN.out]; omega))
        rcases h1 with h1 | h1
        · rw [← h1]; exact HR.out
        · have hk1 : ∃ m, k = m + 1 := ⟨k - 1, by omega⟩
          obtain ⟨m, rfl⟩ := hk1
          have hm : revK l (m + 1) = revK l m := by
            rw [revK, HN.out, show n - 1 - m = m by omega]
            unfold swapE
            refine ext_getD (by simp) fun i hi => ?_
            simp only [List.getD_eq_getElem?_getD, List.getElem?_set, List.length_set]
            by_cases e : m = i
            · subst e; simp [hi]
            · rw [if_neg e, if_neg e]
          have := HR.out
          rw [hm, revK_rev l m (by rw [HN.out]; omega) (by rw [HN.out]; omega)] at this
          exact this)
      have hge : ¬ ((k : Int) < (n : Int) - 1 - (k : Int)) := by omega
      have hged : decide ((k : Int) < (n : Int) - 1 - (k : Int)) = false := by simp; omega
      go_wp2_with fail
      go_end0
      exact ⟨rfl, HF.out, HG.out⟩

end Go.Proofs.Ytnjcelilljniaaa
