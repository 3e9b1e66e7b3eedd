/-
  LabelOne: one label is its name, its quoted value; labels that stand twice may not be.
-/
import Derived.Test.YtamdkmcdleilpaaPrint
import Derived.Test.YtamdkmcdleilpaaChkRef
namespace Go.Proofs.Ytamdkmcdleilpaa
open Go.RowKit

def goodB (n x : Bytes) : Bool := nameB n && (valueB x && !(x == []))
theorem chk_one (n x : Bytes) : chkL [(n, x)] = goodB n x := by
  cases hn : nameB n with
  | false => simp [chkL, chkFrom, goodB, hn]
  | true =>
    have := name_le_nil hn
    simp only [chkL, chkFrom, goodB, hn, this]
    cases valueB x <;> cases (x == []) <;> rfl
theorem leB_refl (n : Bytes) : leB n n = true := by simp [leB]
theorem chk_two (n x : Bytes) : chkL [(n, x), (n, x)] = false := by
  simp [chkL, chkFrom, leB_refl]
theorem labels_new1 (w : World) (n x : Bytes) : Labels (w.alloc (.cells #[.string (bs n), .string (bs x)] 43)) (.slice (some ⟨w.heap.size, 0, none⟩) 1 1) [(n, x)] := by
  refine ⟨_, 1, rfl, by simp, by omega, fun _ => ⟨w.heap.size, 0, rfl, by simp, fun i hi => ?_⟩⟩
  simp at hi; subst hi
  exact ⟨by rw [World.cell?_alloc_at _ _ _ _ rfl]; rfl, by rw [World.cell?_alloc_at _ _ _ _ rfl]; rfl⟩
theorem labels_new2 (w : World) (n x : Bytes) : Labels (w.alloc (.cells #[.string (bs n), .string (bs x), .string (bs n), .string (bs x)] 43)) (.slice (some ⟨w.heap.size, 0, none⟩) 2 2) [(n, x), (n, x)] := by
  refine ⟨_, 2, rfl, by simp, by omega, fun _ => ⟨w.heap.size, 0, rfl, by simp, fun i hi => ?_⟩⟩
  have : i = 0 ∨ i = 1 := by simp at hi; omega
  rcases this with rfl | rfl <;> exact ⟨by rw [World.cell?_alloc_at _ _ _ _ rfl]; rfl, by rw [World.cell?_alloc_at _ _ _ _ rfl]; rfl⟩

theorem print_one (v : Value) (n x : Bytes) (w : World) (hv : Labels w v [(n, x)]) (hn : n.length ≤ 1024) (hx : x.length ≤ 1024) :
    Calls Try.prog 32 #[v] w fun e w' => e = .returned (.tuple #[.string (bs (printL (n ++ 61 :: quoteL x) (goodB n x))), .int .i64 (errL (goodB n x))]) ∧ Below w.heap.size w w' := by
  rw [← chk_one]
  have hq := quoteL_len0 x
  refine print_with v [(n, x)] (n ++ 61 :: quoteL x) w hv (by simp [wt]; omega) (Lib.hid fun v w h => (join_one v _ [44] w h).mono ?_) (by simp; omega)
  rintro e w' ⟨rfl, rfl⟩
  exact ⟨rfl, Below.refl _ _⟩

set_option maxRecDepth 100000 in
set_option maxHeartbeats 4000000 in
theorem lone_at (n x : Bytes) (w : World) (ha : n.length ≤ 1024) (hb : x.length ≤ 1024) (b1 b2 b3 : Bool) (H1 : Hid (nameB n = b1)) (H2 : Hid (valueB x = b2)) (H3 : Hid ((x == []) = b3)) :
    Calls Try.prog 9 #[.string (bs n), .string (bs x)] w fun e w' => e = .returned (.bool true) ∧ Below w.heap.size w w' := by
  have HS := Lib.hid ((((St.start w).alloc (.cells #[.string (bs n), .string (bs x)] 43)).add (fun w' => Labels w' (.slice (some ⟨w.heap.size, 0, none⟩) 1 1) [(n, x)]) (fun w' hb => (labels_new1 w n x).below hb)).alloc (.cells #[.string (bs n), .string (bs x), .string (bs n), .string (bs x)] 43))
  have HS0 := Lib.hid (HS.out.add (fun w' => Labels w' (.slice (some ⟨w.heap.size + 1, 0, none⟩) 2 2) [(n, x), (n, x)]) (fun w' hb => (show Labels _ (.slice (some ⟨w.heap.size + 1, 0, none⟩) 2 2) [(n, x), (n, x)] by have := labels_new2 (w.alloc (.cells #[.string (bs n), .string (bs x)] 43)) n x; rwa [World.size_alloc] at this).below hb))
  clear HS
  have hql := quoteL_len0 x
  have HQ := Lib.hid (fun w => quote_any x w (by omega))
  have HP := Lib.hid (fun w v hv => print_one v n x w hv ha hb)
  have hg : goodB n x = (b1 && (b2 && !b3)) := by unfold goodB; rw [H1.out, H2.out, H3.out]
  rw [hg] at HP
  have HC := Lib.hid (fun w v (hv : Labels w v [(n, x), (n, x)]) => check_any v _ w hv)
  rw [chk_two] at HC
  have HG := Lib.hid (fun w v (hv : Labels w v [(n, x)]) => get_any v _ n w hv)
  have hget : getL [(n, x)] n = x := by simp [getL]
  rw [hget] at HG
  have h3 := H3.out
  have h4 := nil_beq H3.out
  have hg1 : ¬ (9223372036854775807 < n.length + 1) := by omega
  have hg2 : ¬ (9223372036854775807 < n.length + 1 + 1) := by omega
  have hg3 : ¬ (9223372036854775807 < n.length + 1 + 1 + (quoteL x).length) := by omega
  clear hg hget
  go_enter Try.func9, Try.ntmps9
  go_wp2_with fail
  refine (HP.out _ _ (HS0.out.get 1 rfl)).mono ?_
  rintro e w1 ⟨rfl, hd⟩
  have HS1 := Lib.hid (HS0.out.step hd)
  clear hd HP
  cases b1 with
  | false =>
    cases b2 <;> cases b3
    all_goals
      (go_wp2_with fail
       refine (refName_c H1.out).mono ?_
       rintro e w2 ⟨rfl, rfl⟩
       go_wp2_with fail
       refine (HC.out _ _ (HS1.out.get 0 rfl)).mono ?_
       rintro e w4 ⟨rfl, hd⟩
       have HS2 := Lib.hid (HS1.out.step hd)
       clear hd
       go_wp2_with fail
       go_ret
       exact ⟨rfl, HS2.out.bel⟩)
  | true =>
    cases b2 with
    | false =>
      cases b3
      all_goals
        (go_wp2_with fail
         refine (refName_c H1.out).mono ?_
         rintro e w2 ⟨rfl, rfl⟩
         go_wp2_with fail
         refine (refValue_c H2.out).mono ?_
         rintro e w3 ⟨rfl, rfl⟩
         go_wp2_with fail
         refine (HC.out _ _ (HS1.out.get 0 rfl)).mono ?_
         rintro e w4 ⟨rfl, hd⟩
         have HS2 := Lib.hid (HS1.out.step hd)
         clear hd
         go_wp2_with fail
         go_ret
         exact ⟨rfl, HS2.out.bel⟩)
    | true =>
      cases b3 with
      | true =>
        go_wp2_with fail
        refine (refName_c H1.out).mono ?_
        rintro e w2 ⟨rfl, rfl⟩
        go_wp2_with fail
        refine (refValue_c H2.out).mono ?_
        rintro e w3 ⟨rfl, rfl⟩
        go_wp2_with fail
        refine (HC.out _ _ (HS1.out.get 0 rfl)).mono ?_
        rintro e w4 ⟨rfl, hd⟩
        have HS2 := Lib.hid (HS1.out.step hd)
        clear hd
        go_wp2_with fail
        go_ret
        exact ⟨rfl, HS2.out.bel⟩
      | false =>
        go_wp2_with fail
        refine (refName_c H1.out).mono ?_
        rintro e w2 ⟨rfl, rfl⟩
        go_wp2_with fail
        refine (refValue_c H2.out).mono ?_
        rintro e w3 ⟨rfl, rfl⟩
        go_wp2_with fail
        refine (HC.out _ _ (HS1.out.get 0 rfl)).mono ?_
        rintro e w4 ⟨rfl, hd⟩
        have HS2 := Lib.hid (HS1.out.step hd)
        clear hd
        go_wp2_with fail
        have hpr : printL (n ++ 61 :: quoteL x) true = 123 :: (n ++ 61 :: (quoteL x ++ [125])) := by simp [printL]
        refine (HQ.out _).mono ?_
        rintro e w5 ⟨rfl, hd⟩
        have HS3 := Lib.hid (HS2.out.step hd)
        clear hd
        go_wp2_with fail
        refine (HG.out _ _ (HS3.out.get 1 rfl)).mono ?_
        rintro e w6 ⟨rfl, hd⟩
        have HS4 := Lib.hid (HS3.out.step hd)
        clear hd
        go_wp2_with fail
        go_ret
        exact ⟨rfl, HS4.out.bel⟩

set_option maxRecDepth 100000 in
theorem lone_walk (n x : Bytes) (w : World) :
    Calls Try.prog 9 #[.string (bs n), .string (bs x)] w fun e w' => e = .returned (.bool true) ∧ Below w.heap.size w w' := by
  by_cases ha : n.length ≤ 1024
  · by_cases hb : x.length ≤ 1024
    · exact lone_at n x w ha hb _ _ _ (Lib.hid rfl) (Lib.hid rfl) (Lib.hid rfl)
    · go_enter Try.func9, Try.ntmps9
      go_wp2_with fail
      go_ret
      exact ⟨rfl, Below.refl _ _⟩
  · go_enter Try.func9, Try.ntmps9
    go_wp2_with fail
    go_ret
    exact ⟨rfl, Below.refl _ _⟩

end Go.Proofs.Ytamdkmcdleilpaa
