/-
  The document's Sort of labels: each put in ahead of the first that it comes before.
-/
import Derived.Test.YtamdkmcdleilpaaLSort
import Derived.BigQuiet
namespace Go.Proofs.Ytamdkmcdleilpaa
open Go.RowKit

/-- What stands in the new row behind j elements of the old one. -/
def InsB (S : List El) (y : El) (b : Bool) (j : Nat) (T : List El) : Prop :=
  (if b then T ++ S.drop j else T ++ mergeL ltE (S.drop j) [y]) = mergeL ltE S [y] ∧ T.length ≤ j + 1
theorem InsB.start (S : List El) (y : El) : InsB S y false 0 [] := ⟨rfl, Nat.zero_le _⟩
theorem InsB.lt {S : List El} {y : El} {j : Nat} {T : List El} (h : InsB S y false j T) (h0 : T.length ≤ j) (hj : j < S.length) (hl : ltE y (S.getD j el0) = true) : InsB S y true (j + 1) ((T ++ [y]) ++ [S.getD j el0]) := by
  obtain ⟨h1, h2⟩ := h
  simp only [Bool.false_eq_true, if_false] at h1
  rw [(take_snocE hj).2, mergeL_yes ltE _ _ hl, mergeL_nil_right] at h1
  refine ⟨?_, by simp; omega⟩
  simp only [if_true]
  rw [← h1]; simp
theorem InsB.ge {S : List El} {y : El} {j : Nat} {T : List El} (h : InsB S y false j T) (hj : j < S.length) (hl : ltE y (S.getD j el0) = false) : InsB S y false (j + 1) (T ++ [S.getD j el0]) := by
  obtain ⟨h1, h2⟩ := h
  simp only [Bool.false_eq_true, if_false] at h1
  rw [(take_snocE hj).2, mergeL_no ltE _ _ hl] at h1
  refine ⟨?_, by simp; omega⟩
  simp only [Bool.false_eq_true, if_false]
  rw [← h1]; simp
theorem InsB.on {S : List El} {y : El} {j : Nat} {T : List El} (h : InsB S y true j T) (hj : j < S.length) : InsB S y true (j + 1) (T ++ [S.getD j el0]) := by
  obtain ⟨h1, h2⟩ := h
  simp only [if_true] at h1
  rw [(take_snocE hj).2] at h1
  refine ⟨?_, by simp; omega⟩
  simp only [if_true]
  rw [← h1]; simp
theorem InsB.end_f {S : List El} {y : El} {j : Nat} {T : List El} (h : InsB S y false j T) (hj : S.length ≤ j) : T ++ [y] = mergeL ltE S [y] := by
  have h1 := h.1
  simp only [Bool.false_eq_true, if_false] at h1
  rw [List.drop_eq_nil_of_le hj, mergeL_nil_left] at h1
  exact h1
theorem InsB.end_t {S : List El} {y : El} {j : Nat} {T : List El} (h : InsB S y true j T) (hj : S.length ≤ j) : T = mergeL ltE S [y] := by
  have h1 := h.1
  simp only [if_true] at h1
  rw [List.drop_eq_nil_of_le hj, List.append_nil] at h1
  exact h1

theorem ownL_fresh (w : World) {base : Nat} (hb : base ≤ w.heap.size) : OwnR 43 2 encLab (w.alloc (.cells #[] 43)) base (.slice (some ⟨w.heap.size, 0, none⟩) 0 0) ([] : List Lab) :=
  ⟨rfl, .inr ⟨w.heap.size, 0, #[], rfl, hb, heap_alloc_new .., by simp, by simp [maxLen], rfl, rfl⟩⟩
theorem ownL_lower {w : World} {base base' : Nat} {v : Value} {l : List Lab} (h : OwnR 43 2 encLab w base v l) (hb : base' ≤ base) : OwnR 43 2 encLab w base' v l := by
  obtain ⟨h1, h2⟩ := h
  refine ⟨h1, ?_⟩
  rcases h2 with h2 | ⟨g, cap, cur, hv, hg, r⟩
  · exact .inl h2
  · exact .inr ⟨g, cap, cur, hv, Nat.le_trans hb hg, r⟩

theorem below_dna (w : World) (d : Nat) (o : Obj) : Below w.heap.size w ((w.drewN d).alloc o) :=
  (show Below w.heap.size w (w.drewN d) from ⟨rfl, rfl, rfl, Nat.le_refl _, fun _ _ => rfl⟩).alloc (Nat.le_refl _) _
theorem below_dn (w : World) (d : Nat) : Below w.heap.size w (w.drewN d) := ⟨rfl, rfl, rfl, Nat.le_refl _, fun _ _ => rfl⟩

def ROut (ls : List Lab) (w : World) (i s : Value) (wr : World) : Prop :=
  ∃ k : Nat, i = .int .i64 k ∧ k ≤ ls.length ∧ OwnR 43 2 encLab wr w.heap.size s (sortL ltE (ls.take k)) ∧ Below w.heap.size w wr
def RIn (S : List Lab) (y : Lab) (w1 : World) (t b j : Value) (wr : World) : Prop :=
  ∃ (k : Nat) (c : Bool) (T : List Lab), j = .int .i64 k ∧ b = .bool c ∧ k ≤ S.length ∧ (c = false → T.length ≤ k) ∧ InsB S y c k T ∧ OwnR 43 2 encLab wr w1.heap.size t T ∧ Below w1.heap.size w1 wr

set_option maxRecDepth 100000 in
set_option maxHeartbeats 4000000 in
theorem refSort_any (v : Value) (ls : List Lab) (w : World) (hv : Labels w v ls) (hl : ls.length ≤ 1000000) :
    Calls Try.prog 40 #[v] w fun e w' => ∃ u, e = .returned u ∧ Labels w' u (sortL ltE ls) ∧ Below w.heap.size w w' := by
  have HV := Lib.hid hv
  have HS0 := Lib.hid (show ROut ls w (.int .i64 0) (.slice (some ⟨w.heap.size, 0, none⟩) 0 0) (w.alloc (.cells #[] 43)) from
    ⟨0, rfl, Nat.zero_le _, ownL_fresh w (Nat.le_refl _), (Below.refl _ w).alloc (Nat.le_refl _) _⟩)
  obtain ⟨a, cap, rfl, h1, h2, -⟩ := hv
  go_enter Try.func40, Try.ntmps40
  go_wp2_with fail
  go_loopw [4, 3] (fun i s wr => ROut ls w i s wr) (fun i _ _ => ls.length - (intOf i).toNat)
  case atStart => exact HS0.out
  case round =>
    clear HS0
    obtain ⟨k, rfl, hk, ho, hb⟩ := hrel
    have HO := Lib.hid ho
    have HB := Lib.hid hb
    clear ho hb
    by_cases hlt : k < ls.length
    · obtain ⟨b, off, rfl, hbl, -, -⟩ := HV.out.at_ hlt
      have HCk := Lib.hid (fun w' (hb : Below w.heap.size w w') => show w'.cell? ⟨b, off + k * 2, none⟩ = some (.string (bs (ls.getD k ([], [])).1)) ∧ w'.cell? ⟨b, off + k * 2 + 1, none⟩ = some (.string (bs (ls.getD k ([], [])).2)) from by
        obtain ⟨b', off', hx, _, e1, e2⟩ := (HV.out.below hb).at_ hlt
        cases hx
        exact ⟨e1, e2⟩)
      have HSn := Lib.hid (show sortL ltE (ls.take (k + 1)) = mergeL ltE (sortL ltE (ls.take k)) [ls.getD k el0] by rw [(take_snocE hlt).1, sortL_snoc])
      have HSl := Lib.hid (show (sortL ltE (ls.take k)).length = k by rw [sortL_len]; simp; omega)
      have HNx := Lib.hid (fun s w' (h1 : OwnR 43 2 encLab w' w.heap.size s (mergeL ltE (sortL ltE (ls.take k)) [ls.getD k el0])) (h2 : Below w.heap.size w w') => show ROut ls w (.int .i64 ((k : Int) + 1)) s w' from
        ⟨k + 1, by go_num, by omega, by rw [HSn.out]; exact h1, h2⟩)
      clear HSn
      have hd0 : ls.getD k ([], []) = ls.getD k el0 := rfl
      rw [hd0] at HCk
      clear hd0
      generalize ls.getD k el0 = y at *
      generalize sortL ltE (ls.take k) = S at *
      obtain ⟨n, x⟩ := y
      obtain ⟨w1, rfl⟩ : ∃ w1, w1 = wr := ⟨wr, rfl⟩
      have HI0 := Lib.hid (show RIn S (n, x) w1 (.slice (some ⟨w1.heap.size, 0, none⟩) 0 0) (.bool false) (.int .i64 0) (w1.alloc (.cells #[] 43)) from
        ⟨0, false, [], rfl, rfl, Nat.zero_le _, fun _ => Nat.le_refl _, InsB.start _ _, ownL_fresh w1 (Nat.le_refl _), (Below.refl _ w1).alloc (Nat.le_refl _) _⟩)
      have HLS := Lib.hid HO.out.labels
      have hvs := HO.out.labels
      obtain ⟨a2, cap2, rfl, hs1, hs2, -⟩ := hvs
      have HSx := Lib.hid (fun (j : Nat) w' (hj : j < S.length) (hb : Below w1.heap.size w1 w') => (HLS.out.below hb).at_ hj)
      have HCx := Lib.hid (fun w' (hb : Below w1.heap.size w1 w') => HCk.out w' (HB.out.trans (hb.mono HB.out.size)))
      have hsk : S.length ≤ 1000000 := by have := HSl.out; omega
      have hj0 : (0 : Int) ≤ (k : Int) := by omega
      have hj1 : (k : Int) < (ls.length : Int) := by omega
      simp only at HCx
      clear HCk HLS HSl HO hbl
      go_wp2_with fail
      go_loopw [5, 6, 7] (fun t b j wr => RIn S (n, x) w1 t b j wr) (fun _ _ j _ => S.length - (intOf j).toNat)
      case atStart => exact HI0.out
      case round =>
        clear HI0
        obtain ⟨j, c, T, rfl, rfl, hj, hcT, hI, ho, hb⟩ := hrel
        have HT := Lib.hid ho
        have HD := Lib.hid hb
        have HI := Lib.hid hI
        have hTl : T.length ≤ j + 1 := hI.2
        have hsz : w1.heap.size ≤ wr.heap.size := hb.size
        clear ho hb hI
        by_cases hjl : j < S.length
        · obtain ⟨b2, off2, rfl, -, d0, d1⟩ := HSx.out j wr hjl HD.out
          obtain ⟨c0, c1⟩ := HCx.out wr HD.out
          have HSj := Lib.hid (fun w' (hb : Below w1.heap.size w1 w') => show w'.cell? ⟨b2, off2 + j * 2, none⟩ = some (.string (bs (S.getD j ([], [])).1)) ∧ w'.cell? ⟨b2, off2 + j * 2 + 1, none⟩ = some (.string (bs (S.getD j ([], [])).2)) from by
            obtain ⟨b', off', hx, _, e1, e2⟩ := HSx.out j w' hjl hb
            cases hx
            exact ⟨e1, e2⟩)
          have HOn := Lib.hid (fun (hc : c = true) t w' (h1 : OwnR 43 2 encLab w' w1.heap.size t (T ++ [S.getD j el0])) (h2 : Below w1.heap.size w1 w') => show RIn S (n, x) w1 t (.bool true) (.int .i64 ((j : Int) + 1)) w' from by
            subst hc
            exact ⟨j + 1, true, _, by go_num, rfl, by omega, fun h => (by cases h), HI.out.on hjl, h1, h2⟩)
          have HGe := Lib.hid (fun (hc : c = false) (hl : ltE (n, x) (S.getD j el0) = false) t w' (h1 : OwnR 43 2 encLab w' w1.heap.size t (T ++ [S.getD j el0])) (h2 : Below w1.heap.size w1 w') => show RIn S (n, x) w1 t (.bool false) (.int .i64 ((j : Int) + 1)) w' from by
            subst hc
            exact ⟨j + 1, false, _, by go_num, rfl, by omega, fun _ => by have := hcT rfl; simp; omega, HI.out.ge hjl hl, h1, h2⟩)
          have HLt := Lib.hid (fun (hc : c = false) (hl : ltE (n, x) (S.getD j el0) = true) t w' (h1 : OwnR 43 2 encLab w' w1.heap.size t ((T ++ [(n, x)]) ++ [S.getD j el0])) (h2 : Below w1.heap.size w1 w') => show RIn S (n, x) w1 t (.bool true) (.int .i64 ((j : Int) + 1)) w' from by
            subst hc
            exact ⟨j + 1, true, _, by go_num, rfl, by omega, fun h => (by cases h), HI.out.lt (hcT rfl) hjl hl, h1, h2⟩)
          have hd0 : S.getD j ([], []) = S.getD j el0 := rfl
          rw [hd0] at d0 d1 HSj
          clear hd0
          generalize S.getD j el0 = z at *
          obtain ⟨m, y⟩ := z
          simp only at d0 d1 HSj
          have hjz : (0 : Int) ≤ (j : Int) := by omega
          have hjy : (j : Int) < (S.length : Int) := by omega
          clear hcT
          cases c with
          | true =>
            as_aux_lemma =>
              clear HGe HLt
              go_wp2_with fail
              go_quiet (fail)
              go_wp2_with (at_builtin; refine app_lab _ rfl (.tmp 44) (.tmp 49) rfl w1.heap.size _ T (m, y) _ rfl rfl (heap_alloc_new ..) (HT.out.below (below_dna ..)) (by simp; omega) (by omega) ?_; intro g' cap' w6 hown6 hb6; have HO6 := Lib.hid hown6; have HB6 := Lib.hid (HD.out.trans (((below_dna wr _ _).mono hsz).trans hb6)); clear hown6 hb6)
              exact ⟨HOn.out (by trivial) _ _ HO6.out HB6.out, by simp [intOf]; omega⟩
          | false =>
            cases hl : ltE (n, x) (m, y) with
            | true =>
              as_aux_lemma =>
                have hg : Op.bytesLess n m = true := hl
                have HLt2 := Lib.hid (HLt.out rfl hl)
                clear HGe HOn HLt hl
                go_wp2_with fail
                go_quiet (fail)
                go_wp2_with (first
                  | (at_builtin; refine app_lab _ rfl (.tmp 37) (.tmp 42) rfl w1.heap.size _ T (n, x) _ rfl rfl (heap_alloc_new ..) (HT.out.below (below_dna ..)) (by simp; omega) (by omega) ?_; intro g' cap' w6 hown6 hb6; obtain ⟨e0, e1⟩ := HSj.out w6 (HD.out.trans (((below_dna wr _ _).mono hsz).trans hb6)); have HO6 := Lib.hid hown6; have HS6 := Lib.hid (show w1.heap.size ≤ w6.heap.size from Nat.le_trans hsz (Nat.le_trans (below_dna wr _ _).size hb6.size)); have HB6 := Lib.hid (HD.out.trans (((below_dna wr _ _).mono hsz).trans hb6)); clear hown6 hb6)
                  | (at_builtin; refine app_lab _ rfl (.tmp 44) (.tmp 49) rfl w1.heap.size (.slice (some ⟨g', 0, none⟩) (T.length + 1) cap') (T ++ [(n, x)]) (m, y) _ rfl rfl (heap_alloc_new ..) (HO6.out.below ((Below.refl _ _).alloc (Nat.le_refl _) _)) (by have := HS6.out; simp; omega) (by simp; omega) ?_; intro g2 cap2 w7 hown7 hb7; have HO7 := Lib.hid hown7; have HB7 := Lib.hid (HB6.out.trans (((Below.refl w1.heap.size w6).alloc HS6.out _).trans hb7)); clear hown7 hb7))
                exact ⟨HLt2.out _ _ (by have := HO7.out; rw [List.length_append] at this; exact this) HB7.out, by simp [intOf]; omega⟩
            | false =>
              as_aux_lemma =>
                have hg : Op.bytesLess n m = false := hl
                have HGe2 := Lib.hid (HGe.out rfl hl)
                clear HGe HOn HLt hl
                go_wp2_with fail
                go_quiet (fail)
                go_wp2_with (at_builtin; refine app_lab _ rfl (.tmp 44) (.tmp 49) rfl w1.heap.size _ T (m, y) _ rfl rfl (heap_alloc_new ..) (HT.out.below (below_dna ..)) (by simp; omega) (by omega) ?_; intro g' cap' w6 hown6 hb6; have HO6 := Lib.hid hown6; have HB6 := Lib.hid (HD.out.trans (((below_dna wr _ _).mono hsz).trans hb6)); clear hown6 hb6)
                exact ⟨HGe2.out _ _ HO6.out HB6.out, by simp [intOf]; omega⟩
        · have hbw := HB.out.size
          cases c with
          | true =>
            as_aux_lemma =>
              have HE := Lib.hid (HI.out.end_t (by omega))
              have HF := Lib.hid (HNx.out _ wr (by rw [← HE.out]; exact ownL_lower HT.out hbw) (HB.out.trans (HD.out.mono hbw)))
              clear HNx hbw
              go_wp2_with fail
              exact ⟨HF.out, by simp [intOf]; omega⟩
          | false =>
            as_aux_lemma =>
              obtain ⟨c0, c1⟩ := HCx.out wr HD.out
              have HE := Lib.hid (HI.out.end_f (by omega))
              have HF := Lib.hid (fun t w' (h1 : OwnR 43 2 encLab w' w1.heap.size t (T ++ [(n, x)])) (h2 : Below w1.heap.size wr w') => HNx.out t w' (by rw [← HE.out]; exact ownL_lower h1 hbw) (HB.out.trans ((HD.out.trans h2).mono hbw)))
              clear HNx hbw
              go_wp2_with (at_builtin; refine app_lab _ rfl (.tmp 53) (.tmp 58) rfl w1.heap.size _ T (n, x) _ rfl rfl (heap_alloc_new ..) (HT.out.below ((Below.refl _ _).alloc (Nat.le_refl _) _)) (by simp; omega) (by omega) ?_; intro g' cap' w6 hown6 hb6; have HX6 := Lib.hid (HF.out _ w6 hown6 (((Below.refl w1.heap.size wr).alloc hsz _).trans hb6)); clear hown6 hb6)
              exact ⟨HX6.out, by simp [intOf]; omega⟩
    · have HX := Lib.hid (show sortL ltE ls = sortL ltE (ls.take k) by rw [List.take_of_length_le (by omega)])
      go_wp2_with fail
      go_ret
      exact ⟨_, rfl, by rw [HX.out]; exact HO.out.labels, HB.out⟩

end Go.Proofs.Ytamdkmcdleilpaa
