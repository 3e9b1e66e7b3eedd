/-
  PostUnion: what is in one of any lists is the document's, in whatever order they stand.
-/
import Derived.Test.YtlbnofaehkdlpaaTwo6
namespace Go.Proofs.Ytlbnofaehkdlpaa
open Go.RowKit

noncomputable def rise (xs : List Int) : List Int := Classical.choose (rising_some xs)
theorem rise_rising (xs : List Int) : Rising (rise xs) := (Classical.choose_spec (rising_some xs)).1
theorem rise_le (xs : List Int) : (rise xs).length ≤ 200 := (Classical.choose_spec (rising_some xs)).2.1
theorem rise_call (xs : List Int) (v : Value) (w : World) (h : Ints w v xs) :
    Calls Try.prog 8 #[v] w fun e w' => ∃ v', e = .returned v' ∧ Own w' w.heap.size v' (rise xs) ∧ Below w.heap.size w w' :=
  (Classical.choose_spec (rising_some xs)).2.2 v w h

noncomputable def Fw (ls : List (List Int)) (k : Nat) : List (List Int) := (ls.take k).map rise
noncomputable def Bw (ls : List (List Int)) (k : Nat) : List (List Int) := (ls.reverse.take k).map rise
theorem Fw_succ {ls : List (List Int)} {k : Nat} (h : k < ls.length) : Fw ls (k + 1) = Fw ls k ++ [rise (ls.getD k [])] := by
  unfold Fw
  rw [List.take_add_one, List.getElem?_eq_getElem h, List.map_append]
  have e : ls.getD k [] = ls[k] := by simp [List.getD, List.getElem?_eq_getElem h]
  rw [e]; rfl
theorem Bw_succ {ls : List (List Int)} {k : Nat} (h : k < ls.length) : Bw ls (k + 1) = Bw ls k ++ [rise (ls.getD (ls.length - 1 - k) [])] := by
  unfold Bw
  have hr : k < ls.reverse.length := by simpa using h
  rw [List.take_add_one, List.getElem?_eq_getElem hr, List.map_append]
  have h2 : ls.length - 1 - k < ls.length := by omega
  have e : ls.getD (ls.length - 1 - k) [] = ls.reverse[k] := by simp [List.getD, List.getElem?_eq_getElem h2]
  rw [e]; rfl
theorem Fw_len (ls : List (List Int)) (k : Nat) (h : k ≤ ls.length) : (Fw ls k).length = k := by simp [Fw]; omega
theorem Bw_len (ls : List (List Int)) (k : Nat) (h : k ≤ ls.length) : (Bw ls k).length = k := by simp [Bw]; omega
theorem map_rise_rising (ls : List (List Int)) : ∀ l ∈ ls.map rise, Rising l := by
  intro l hl
  obtain ⟨x, _, rfl⟩ := List.mem_map.1 hl
  exact rise_rising x
theorem map_rise_total (ls : List (List Int)) : total (ls.map rise) ≤ 200 * ls.length := by
  induction ls with
  | nil => simp [total]
  | cons l ls ih => 
    have := rise_le l
    simp only [total, List.map_cons, List.sum_cons, List.length_cons] at *
    omega
theorem Fw_all (ls : List (List Int)) : Fw ls ls.length = ls.map rise := by simp [Fw]
theorem Bw_all (ls : List (List Int)) : Bw ls ls.length = (ls.map rise).reverse := by
  unfold Bw
  rw [List.take_of_length_le (by simp), List.map_reverse]
theorem inSome_reverse (ls : List (List Int)) (m : Int) : InSome ls.reverse m ↔ InSome ls m := by simp [InSome]
theorem total_reverse (ls : List (List Int)) : total ls.reverse = total ls := by simp [total]

def UnionRel (w : World) (ls : List (List Int)) (vl vb : Value) (k : Nat) (wr : World) : Prop :=
  ∃ ul ub, Two wr w.heap.size vl vb ul ub (Fw ls k) (Bw ls k)

theorem Two.start (w : World) : Two ((w.alloc (.cells #[] 22)).alloc (.cells #[] 22)) w.heap.size (.slice (some ⟨w.heap.size, 0, none⟩) 0 0) (.slice (some ⟨w.heap.size + 1, 0, none⟩) 0 0) [] [] [] [] := by
  refine ⟨?_, ?_, ?_, rfl, rfl, fun i h => by simp at h, fun i h => by simp at h⟩
  · exact (World.ownsRow_made w #[] 0 (Nat.le_refl _) (by decide) rfl).alloc _
  · have := World.ownsRow_made (e := 22) (size := 1) (base := w.heap.size) (w.alloc (.cells #[] 22)) #[] 0 (by simp) (by decide) rfl
    unfold Row
    simpa using this
  · intro k h1 h2
    simp [Value.ownBlock] at h1 h2
    omega

set_option maxRecDepth 100000 in
set_option maxHeartbeats 2000000 in
theorem union_walk (v0 : Value) (ls : List (List Int)) (w : World) (h0 : Lists w v0 ls) :
    Calls Try.prog 5 #[v0] w fun e w' => e = .returned (.bool true) ∧ Below w.heap.size w w' := by
  have HL := Lib.hid h0
  obtain ⟨a, c, rfl, hc1, hc2, _⟩ := h0
  by_cases hl : ls.length ≤ 20
  · go_enter Try.func5, Try.ntmps5
    go_wp2_with fail
    go_loopw [3, 4, 5] (fun vl vb i wr => ∃ k : Nat, k ≤ ls.length ∧ i = .int .i64 k ∧ UnionRel w ls vl vb k wr ∧ Below w.heap.size w wr)
      (fun _ _ i _ => ls.length - (intOf i).toNat)
    case atStart => exact ⟨0, Nat.zero_le _, rfl, ⟨[], [], by simpa [Fw, Bw] using Two.start w⟩, ((Below.refl _ _).alloc (Nat.le_refl _) _).alloc (by simp) _⟩
    case round =>
      obtain ⟨k, hk, rfl, ⟨ul, ub, h2⟩, hbel⟩ := hrel
      have hl1 := Fw_len ls k hk
      have hl2 := Bw_len ls k hk
      have H2 := Lib.hid h2
      clear h2
      by_cases hlt : k < ls.length
      · obtain ⟨b, off, cap, u, hv, _, hb, hu, hIu⟩ := HL.out.at_ hlt
        obtain ⟨b', off', cap', u', hv', _, hb', hu', hIu'⟩ := HL.out.at_ (show ls.length - 1 - k < ls.length by omega)
        simp only [Value.slice.injEq, true_and] at hv
        obtain ⟨rfl, rfl⟩ := hv
        simp only [Value.slice.injEq, true_and, Option.some.injEq, Addr.mk.injEq, and_true] at hv'
        obtain ⟨⟨rfl, rfl⟩, rfl⟩ := hv'
        have hcu : wr.cell? ⟨b, off + k, none⟩ = some u := (hbel.cell (by exact hb)).trans hu
        have HI := Lib.hid hIu
        have HI' := Lib.hid hIu'
        have HSF := Lib.hid (Fw_succ hlt)
        have HSB := Lib.hid (Bw_succ hlt)
        have hcu' := hu'
        have hsz := hbel.size
        clear hu hIu hIu' hb' hu'
        generalize ls.getD k [] = X at *
        generalize ls.getD (ls.length - 1 - k) [] = Y at *
        generalize Fw ls k = FL at *
        generalize Bw ls k = BL at *
        go_wp2_with fail
        refine (rise_call X _ _ (HI.out.below hbel)).mono ?_
        rintro e w1 ⟨x, rfl, hown, hb1⟩
        have hlt1 := H2.out.lt
        have HX := Lib.hid (hown.intsA hlt1.1 hlt1.2)
        obtain ⟨ax, cx, rfl, -, -, -⟩ := hown.open_
        have H21 := Lib.hid (H2.out.below hb1)
        have hbel1 := hbel.trans (hb1.mono hbel.size)
        have hsz1 := hbel1.size
        clear hlt1 hown
        go_wp2_with (at_builtin; refine wpList_push _ rfl (.tmp 18) (.tmp 24) rfl w.heap.size _ _ _ _ _ FL BL (rise X) (by rfl) (by rfl) H21.out HX.out hsz1 (by omega) ?_; intro vl' w2 h2' hbel2; have hcu2 := ((hbel1.trans hbel2).cell (p := ⟨b, off + (ls.length - 1 - k), none⟩) (by exact hb)).trans hcu')
        have hbelA := hbel1.trans hbel2
        have H22 := Lib.hid h2'
        clear h2' hcu hcu'
        go_wp2_with fail
        refine (rise_call Y _ _ (HI'.out.below hbelA)).mono ?_
        rintro e w3 ⟨y, rfl, hown, hb3⟩
        have hlt1 := H22.out.lt
        have HY := Lib.hid (hown.intsA hlt1.1 hlt1.2)
        obtain ⟨ay, cy, rfl, -, -, -⟩ := hown.open_
        have H23 := Lib.hid (H22.out.below hb3)
        have hbelB := hbelA.trans (hb3.mono hbelA.size)
        have hszB := hbelB.size
        clear hlt1 hown hcu2
        go_wp2_with (at_builtin; refine wpList_push _ rfl (.tmp 26) (.tmp 36) rfl w.heap.size _ _ _ _ _ BL (FL ++ [rise X]) (rise Y) (by rfl) (by rfl) H23.out.swap HY.out.swap hszB (by omega) ?_; intro vb' w4 h4 hbel4)
        have H24 := Lib.hid h4.swap
        clear h4
        go_roundw
        case rel => exact ⟨k + 1, by omega, by go_num, ⟨_, _, by rw [HSF.out, HSB.out]; exact H24.out⟩, hbelB.trans hbel4⟩
        case measure => simp [intOf]; omega
      · have hkk : k = ls.length := by omega
        have HLF := Lib.hid (show Lists wr _ (ls.map rise) by rw [← Fw_all, ← hkk]; exact H2.out.lists)
        have HLB := Lib.hid (show Lists wr _ (ls.map rise).reverse by rw [← Bw_all, ← hkk]; exact H2.out.swap.lists)
        have HR := Lib.hid (map_rise_rising ls)
        have HRB := Lib.hid (fun l (h : l ∈ (ls.map rise).reverse) => map_rise_rising ls l (List.mem_reverse.1 h))
        have ht := map_rise_total ls
        have htb := total_reverse (ls.map rise)
        have hm := inSome_reverse (ls.map rise)
        have HM := Lib.hid hm
        have hlen : (ls.map rise).length = ls.length := List.length_map _
        have ht2 : total (ls.map rise) ≤ 100000 := by omega
        have ht3 : total (ls.map rise).reverse ≤ 100000 := by omega
        clear hkk hm htb ht H2 hl1 hl2
        generalize (ls.map rise).reverse = LB at *
        generalize ls.map rise = LF at *
        have HS := Lib.hid ((((St.start w).step hbel).add (fun w => Lists w _ LB) (fun w' hb => HLB.out.below hb)).add (fun w => Lists w _ LF) (fun w' hb => HLF.out.below hb))
        clear hbel
        go_wp2_with fail
        refine (union_any _ LF _ _ (Nat.le_refl _) (Lib.hid (HS.out.get 0 rfl)) HR (by omega)).mono ?_
        rintro e w1 ⟨v1, r1, rfl, hi1, hb1, hr1, hl1, hm1⟩
        have HS1 := Lib.hid ((HS.out.step hb1).add (fun w => Ints w v1 r1) (fun w' hb => hi1.below hb))
        have HR1 := Lib.hid hr1
        have HM1 := Lib.hid hm1
        clear hi1 hb1 hr1 hm1
        go_wp2_with fail
        refine (refUnion_any LF _ _ (Lib.hid (HS1.out.get 1 rfl)) HR (by omega)).mono ?_
        rintro e w2 ⟨v2, r2, rfl, hi2, hb2, hr2, hl2, hm2⟩
        have HS2 := Lib.hid ((HS1.out.step hb2).add (fun w => Ints w v2 r2) (fun w' hb => hi2.below hb))
        have HQ := Lib.hid (same_yes (rising_ext HR1.out hr2 (fun m => by rw [HM1.out, hm2])) v1 v2)
        clear hi2 hb2 hr2 hm2
        go_wp2_with fail
        refine (HQ.out _ (HS2.out.get 1 rfl) (HS2.out.get 0 rfl)).mono ?_
        rintro e w3 ⟨rfl, hb3⟩
        have HS3 := Lib.hid (HS2.out.step hb3)
        clear hb3
        go_wp2_with fail
        refine (union_any _ LB _ _ (Nat.le_refl _) (Lib.hid (HS3.out.get 3 rfl)) HRB (by omega)).mono ?_
        rintro e w4 ⟨v4, r4, rfl, hi4, hb4, hr4, hl4, hm4⟩
        have HS4 := Lib.hid ((HS3.out.step hb4).add (fun w => Ints w v4 r4) (fun w' hb => hi4.below hb))
        have HQ4 := Lib.hid (same_yes (rising_ext HR1.out hr4 (fun m => by rw [HM1.out, hm4, HM.out])) v1 v4)
        clear hi4 hb4 hr4 hm4
        go_wp2_with fail
        refine (HQ4.out _ (HS4.out.get 2 rfl) (HS4.out.get 0 rfl)).mono ?_
        rintro e w5 ⟨rfl, hb5⟩
        have HS5 := Lib.hid (HS4.out.step hb5)
        clear hb5
        go_wp2_with fail
        refine ((risesB_of HR1.out) ▸ reads (postRises_any v1 r1 _ (HS5.out.get 2 rfl))).mono ?_
        rintro e w6 ⟨rfl, hb6⟩
        have HS6 := Lib.hid (HS5.out.step hb6)
        clear hb6
        go_wp2_with fail
        go_ret
        exact ⟨rfl, HS6.out.bel⟩
  · go_enter Try.func5, Try.ntmps5
    go_wp2_with fail
    go_ret
    exact ⟨rfl, Below.refl _ _⟩

end Go.Proofs.Ytlbnofaehkdlpaa
