/-
  MatchSets: a set matches just what one of its values does by =; all matchers are matched just if each is.
-/
import Derived.Test.YtamdkmcdleilpaaLawBegins
namespace Go.Proofs.Ytamdkmcdleilpaa
open Go.RowKit

theorem hasS_take {ss : List Bytes} {x : Bytes} {k : Nat} (h : k < ss.length) : hasS (ss.take (k + 1)) x = (hasS (ss.take k) x || (x == ss.getD k [])) := by
  have e : ss.take (k + 1) = ss.take k ++ [ss.getD k []] := by
    rw [List.take_add_one, List.getElem?_eq_getElem h]; simp [List.getD, List.getElem?_eq_getElem h]
  rw [e]; simp [hasS]
theorem both_lit (w : World) (n : Bytes) (a : Option Addr) (l c : Nat) (ss : List Bytes) (hu : Strs w (.slice a l c) ss) :
    Matchers (w.alloc (.cells #[.int .i64 3, .string (bs n), .string (bs []), .slice a l c, .int .i64 2, .string (bs n), .string (bs []), .slice none 0 0] 27)) (.slice (some ⟨w.heap.size, 0, none⟩) 2 2) [⟨3, n, [], ss⟩, ⟨2, n, [], []⟩] := by
  have hb : Below w.heap.size w (w.alloc (.cells #[.int .i64 3, .string (bs n), .string (bs []), .slice a l c, .int .i64 2, .string (bs n), .string (bs []), .slice none 0 0] 27)) := (Below.refl _ _).alloc (Nat.le_refl _) _
  refine ⟨_, 2, rfl, Nat.le_refl _, by omega, fun _ => ⟨w.heap.size, 0, rfl, by simp, fun i hi => ?_⟩⟩
  have hi' : i < 2 := hi
  rcases (show i = 0 ∨ i = 1 by omega) with rfl | rfl
  · refine ⟨?_, ?_, ?_, .slice a l c, ?_, hu.below hb⟩ <;> (rw [World.cell?_alloc_at _ _ _ _ rfl]; rfl)
  · refine ⟨?_, ?_, ?_, .slice none 0 0, ?_, Strs.nil _ none⟩ <;> (rw [World.cell?_alloc_at _ _ _ _ rfl]; rfl)
theorem all_both (n : Bytes) (ss : List Bytes) (ls : List Lab) : allM [⟨3, n, [], ss⟩, ⟨2, n, [], []⟩] ls = hasS ss (getL ls n) := by
  simp [allM, oneM, oneB, isPre_nil]

set_option maxRecDepth 100000 in
set_option maxHeartbeats 2000000 in
theorem sets_walk (n : Bytes) (vs v : Value) (ss : List Bytes) (ls : List Lab) (w : World) (hs : Strs w vs ss) (hv : Labels w v ls) :
    Calls Try.prog 6 #[.string (bs n), vs, v] w fun e w' => e = .returned (.bool true) ∧ Below w.heap.size w w' := by
  have HS := Lib.hid (((St.start w).add (fun w => Labels w v ls) (fun w' hb => hv.below hb)).add (fun w => Strs w vs ss) (fun w' hb => hs.below hb))
  obtain ⟨a, cap, rfl, p1, p2, -⟩ := hv
  obtain ⟨sa, sc, rfl, q1, q2, -⟩ := hs
  by_cases hn : n.length ≤ 1024
  · by_cases hl : ss.length ≤ 20
    · go_enter Try.func6, Try.ntmps6
      go_wp2_with fail
      refine (large_any _ ls _ (HS.out.get 1 rfl)).mono ?_
      rintro e w1 ⟨bb, rfl, hsm, hb⟩
      have HS1 := Lib.hid (HS.out.step hb)
      clear hb
      cases bb with
      | true =>
        clear hsm
        go_wp2_with fail
        go_ret
        exact ⟨rfl, HS1.out.bel⟩
      | false =>
        have hsm' := hsm rfl
        have hgl := getL_len ls n
        clear hsm HS
        go_wp2_with fail
        go_loopw [7, 8] (fun s i wr => ∃ k : Nat, k ≤ ss.length ∧ i = .int .i64 k ∧ s = .bool (hasS (ss.take k) (getL ls n)) ∧ St w wr [fun w => Strs w (.slice sa ss.length sc) ss, fun w => Labels w (.slice a ls.length cap) ls])
          (fun _ i _ => ss.length - (intOf i).toNat)
        case atStart => exact ⟨0, Nat.zero_le _, rfl, rfl, HS1.out⟩
        case round =>
          clear HS1
          obtain ⟨k, hk, rfl, rfl, hst⟩ := hrel
          have HS := Lib.hid hst
          clear hst
          by_cases hlt : k < ss.length
          · obtain ⟨b, off, rfl, hb, hc⟩ := Strs.at_ (HS.out.get 0 rfl) hlt
            have HT := Lib.hid (hasS_take (x := getL ls n) hlt)
            generalize ss.getD k [] = y at *
            by_cases hy : y.length ≤ 1024
            · cases hh : hasS (ss.take k) (getL ls n) with
              | true =>
                have HE := Lib.hid (show hasS (ss.take (k + 1)) (getL ls n) = true by rw [HT.out, hh]; rfl)
                clear hh
                go_wp2_with fail
                go_roundw
                case rel => exact ⟨k + 1, by omega, by go_num, by rw [HE.out], HS.out⟩
                case measure => simp [intOf]; omega
              | false =>
                have HE := Lib.hid (show (getL ls n == y) = hasS (ss.take (k + 1)) (getL ls n) by rw [HT.out, hh]; rfl)
                clear hh
                go_wp2_with fail
                refine (is_b (one_0 n y (.slice none 0 0) _ ls _ (HS.out.get 1 rfl)) HE.out).mono ?_
                rintro e w2 ⟨rfl, hb2⟩
                have HS2 := Lib.hid (HS.out.step hb2)
                clear hb2
                go_wp2_with fail
                go_roundw
                case rel => exact ⟨k + 1, by omega, by go_num, rfl, HS2.out⟩
                case measure => simp [intOf]; omega
            · go_wp2_with fail
              go_ret
              exact ⟨rfl, HS.out.bel⟩
          · have HK := Lib.hid (show ss.take k = ss from List.take_of_length_le (by omega))
            rw [HK.out]
            generalize hg : hasS ss (getL ls n) = g
            have HG := Lib.hid hg
            clear hg
            go_wp2_with fail
            refine (is_b (one_3 n [] _ _ ls _ (HS.out.get 1 rfl) ss (HS.out.get 0 rfl)) HG.out).mono ?_
            rintro e w2 ⟨rfl, hb2⟩
            have HS2 := Lib.hid (HS.out.step hb2)
            clear hb2
            cases g with
            | true =>
              go_wp2_with fail
              have HS3 := Lib.hid ((HS2.out.alloc (.cells #[.int .i64 3, .string (bs n), .string (bs []), .slice sa ss.length sc, .int .i64 2, .string (bs n), .string (bs []), .slice none 0 0] 27)).add (fun w => Matchers w _ [⟨3, n, [], ss⟩, ⟨2, n, [], []⟩]) (fun w' hb => (both_lit _ n sa ss.length sc ss (HS2.out.get 0 rfl)).below hb))
              refine (is_b (c := true) (all_any _ _ _ ls _ (HS3.out.get 0 rfl) (HS3.out.get 2 rfl) (by intro m hm; simp at hm; rcases hm with rfl | rfl <;> simp) (by omega)) (by rw [all_both]; exact HG.out)).mono ?_
              rintro e w4 ⟨rfl, hb⟩
              have HS4 := Lib.hid (HS3.out.step hb)
              clear hb
              go_wp2_with fail
              refine (is_b (c := true) (all_any _ _ [] ls _ (Matchers.nil _) (HS4.out.get 2 rfl) (by intro m hm; cases hm) (by omega)) rfl).mono ?_
              rintro e w5 ⟨rfl, hb⟩
              have HS5 := Lib.hid (HS4.out.step hb)
              clear hb
              go_wp2_with fail
              go_ret
              exact ⟨rfl, HS5.out.bel⟩
            | false =>
              go_wp2_with fail
              have HS3 := Lib.hid ((HS2.out.alloc (.cells #[.int .i64 3, .string (bs n), .string (bs []), .slice sa ss.length sc, .int .i64 2, .string (bs n), .string (bs []), .slice none 0 0] 27)).add (fun w => Matchers w _ [⟨3, n, [], ss⟩, ⟨2, n, [], []⟩]) (fun w' hb => (both_lit _ n sa ss.length sc ss (HS2.out.get 0 rfl)).below hb))
              refine (is_b (c := false) (all_any _ _ _ ls _ (HS3.out.get 0 rfl) (HS3.out.get 2 rfl) (by intro m hm; simp at hm; rcases hm with rfl | rfl <;> simp) (by omega)) (by rw [all_both]; exact HG.out)).mono ?_
              rintro e w4 ⟨rfl, hb⟩
              have HS4 := Lib.hid (HS3.out.step hb)
              clear hb
              go_wp2_with fail
              refine (is_b (c := true) (all_any _ _ [] ls _ (Matchers.nil _) (HS4.out.get 2 rfl) (by intro m hm; cases hm) (by omega)) rfl).mono ?_
              rintro e w5 ⟨rfl, hb⟩
              have HS5 := Lib.hid (HS4.out.step hb)
              clear hb
              go_wp2_with fail
              go_ret
              exact ⟨rfl, HS5.out.bel⟩
    · go_enter Try.func6, Try.ntmps6
      go_wp2_with fail
      go_ret
      exact ⟨rfl, Below.refl _ _⟩
  · go_enter Try.func6, Try.ntmps6
    go_wp2_with fail
    go_ret
    exact ⟨rfl, Below.refl _ _⟩

end Go.Proofs.Ytamdkmcdleilpaa
