/-
  index.some under both closures of index.of.
-/
import Derived.Test.YtheenlomlmbjaaaGreatDoorGSel1
import Derived.Test.YtheenlomlmbjaaaGreatDoorGAddZ
import Derived.Deep.RegionHeld3
import Derived.Test.YtheenlomlmbjaaaGreatDoorGOpn1
import Derived.Test.YtheenlomlmbjaaaGreatDoorGIn
import Derived.Deep.AppendLies
set_option linter.unusedSimpArgs false
set_option linter.unusedVariables false
namespace Go.Proofs.YtheenlomlmbjaaaGreatDoor
open Go.RowKit Go.Maps

def SomeA (w : World) (n : Nat) (P : Bytes → Bool) (e : Ending) (w' : World) : Prop := ∃ v r, e = .returned v ∧ P6.Ints w' v r ∧ P6.Rising r ∧ (∀ m, m ∈ r ↔ ∃ j, j < n ∧ m = (j : Int) ∧ P (lettB j) = true) ∧ r.length ≤ n ∧ Below w.heap.size w w'
theorem rising_one (x : Int) : P6.Rising [x] := by unfold P6.Rising; simp
theorem total_ones (J : List Nat) : P6.total (J.map fun (j : Nat) => [(j : Int)]) = J.length := by
  induction J with
  | nil => rfl
  | cons x J ih => simp only [P6.total, List.map_cons, List.sum_cons, List.length_cons, List.length_nil] at *; omega

set_option maxRecDepth 100000 in
set_option maxHeartbeats 4000000 in
attribute [local go_sem ↓] Go.wp_at_zero Go.wp_at_succ in
theorem someM_any (F : Bl) (I n : Nat) (P : Bytes → Bool) (B : Nat) (w : World) (h : IdxL F w I n) (hn0 : 0 < n) (hn : n ≤ 5)
    (hw : ∀ s W, Below w.heap.size w W → s.length ≤ 1 → Calls Tryz.prog 47 #[.string (bs s), .pointer (some ⟨B, 0, none⟩)] W fun e W' => e = .returned (.bool (P s)) ∧ Below W.heap.size W W') :
    Calls Tryz.prog 49 #[.pointer (some ⟨I, 0, none⟩), .string (bs [97]), .func (.func 47) #[] #[.pointer (some ⟨B, 0, none⟩)]] w (SomeA w n P) := by
  obtain ⟨av, km, hm, im, hx⟩ := h
  obtain ⟨-, -, c2, -⟩ := hx.cells
  have hlk := hx.h.look
  rw [if_neg (by omega)] at hlk
  obtain ⟨⟨D, f, V, h1, h2, h3, h4, h5⟩, -⟩ := hx.n hn0
  have HM := Lib.hid h1
  have HD := Lib.hid h2
  have H3 := Lib.hid h3
  have H4 := Lib.hid h4
  have H5 := Lib.hid h5
  have HW := Lib.hid hw
  have himl := World.ownsMap.lt h1
  clear hx h1 h2 h3 h4 h5 hw hn0
  go_enter Tryz.func49, Tryz.ntmps49
  go_wp2_with (at_range; refine wpList_range_own _ rfl _ 74 rfl 9 23 keyedStr Tryz.underlying74 rawE im n D rfl HM.out ?_; intro w2 hrg2 hg2 hs2)
  go_frame
  have HI0 := Lib.hid (show SomeI w im n D V P [] _ (.slice none 0 0) w2 from ⟨RngS.start hrg2, ⟨[], OwnR.nil _ _, by simp, by simp, Nat.le_refl _⟩, ⟨List.Pairwise.nil, by simp⟩, (Below.refl _ _).grown hg2 (Nat.le_refl _) (fun k hk => by cases hk)⟩)
  clear hrg2 hg2 hs2 hlk c2
  go_loopw [7] (fun x wq => ∃ v done cnt, x = v ∧ SomeI w im n D V P done cnt v wq) (fun _ wq => wq.rangeLeft im w.heap.size)
  case atStart => exact ⟨_, _, _, rfl, HI0.out⟩
  case round =>
    clear HI0
    obtain ⟨v, done, cnt, hv, hI⟩ := hrel
    have hv' := hv.symm
    clear hv
    subst hv'
    have HI := Lib.hid hI
    have HMs := Lib.hid hI.rng.left
    have HLn := Lib.hid hI.len
    clear hI
    go_wp2_with (at_next; refine next_str _ rfl (.tmp 16) rfl im w.heap.size n cnt n D f done rfl HI.out.rng HD.out ?_ ?_)
    · intro hdone
      have HDn := Lib.hid hdone
      clear hdone
      obtain ⟨-, ⟨J, j1, j2, j3, j4⟩, -, hb⟩ := HI.out
      have hls := ow_lists (V := V) j1 (fun j hj => (H5.out j (j2 j hj).1).1.below hb)
      have hJ : J.length ≤ 5 := by have := HLn.out; omega
      have HU := Lib.hid (P6.union_any 5 (J.map fun (j : Nat) => [(j : Int)]) v wr (by simpa using hJ) (Lib.hid hls) (Lib.hid (fun l hl => by obtain ⟨j, _, rfl⟩ := List.mem_map.1 hl; exact rising_one _)) (by rw [total_ones]; omega))
      have HEnd := Lib.hid (show ∀ (v' : Value) (r : List Int) (w' : World), P6.Ints w' v' r → Below wr.heap.size wr w' → P6.Rising r → r.length ≤ P6.total (J.map fun (j : Nat) => [(j : Int)]) → (∀ m, m ∈ r ↔ P6.InSome (J.map fun (j : Nat) => [(j : Int)]) m) → SomeA w n P (.returned v') w' from fun v' r w' a1 a2 a3 a4 a5 =>
        ⟨v', r, rfl, a1, a3, fun m => (a5 m).trans ⟨fun ⟨l, hl, hm⟩ => by
          obtain ⟨j, hj, rfl⟩ := List.mem_map.1 hl
          simp at hm
          exact ⟨j, (j2 j hj).1, hm, (j2 j hj).2⟩, fun ⟨j, e1, e2, e3⟩ => ⟨[(j : Int)], List.mem_map.2 ⟨j, j3 j e1 (HDn.out _ _ (H3.out j e1)) e3, rfl⟩, by simp [e2]⟩⟩, by rw [total_ones] at a4; have := HLn.out; omega, hb.trans (a2.mono hb.size)⟩)
      clear j1 j2 j3 j4 hb hls hJ
      go_wp2_with fail
      refine HU.out.mono ?_
      rintro e w4 ⟨v', r, rfl, u1, u2, u3, u4, u5⟩
      have HE := Lib.hid (HEnd.out v' r w4 u1 u2 u3 u4 u5)
      clear u1 u2 u3 u4 u5 HU HEnd
      go_wp2_with fail
      go_ret
      exact HE.out
    · intro nm vv w3 cnt3 hnd hf hr3 hlt3 hgr3 hsz3 hen3
      obtain ⟨j, hj, rfl, rfl⟩ := H4.out nm vv hf
      obtain ⟨J, j1, j2, j3, j4, j5, j6, j7⟩ := HI.out.next hr3 hgr3 hj hnd
      have hVs := (H5.out j hj).1.isSl
      obtain ⟨va, vn, vc, hve⟩ := hVs
      have HVe := Lib.hid hve
      rw [hve] at hen3
      rw [hve]
      have HWs := Lib.hid (HW.out (lettB j) w3 j7 (by simp [lettB]))
      have hJ5 : J.length ≤ 5 := by have := HLn.out; omega
      have HR3 := Lib.hid hr3
      have HJ1 := Lib.hid j1
      have HJ2 := Lib.hid j2
      have HJ3 := Lib.hid j3
      have HJ4 := Lib.hid j4
      have HJ5 := Lib.hid j5
      have HJ6 := Lib.hid j6
      have HJ7 := Lib.hid j7
      have HLt := Lib.hid hlt3
      clear hr3 hgr3 hsz3 hnd hf hve j1 j2 j3 j4 j5 j6 j7 hlt3
      by_cases hP : P (lettB j) = true
      · rw [hP] at HWs
        have HPj := Lib.hid hP
        clear hP
        go_wp2_with fail
        refine HWs.out.mono ?_
        rintro e w4 ⟨rfl, hb4⟩
        have hj4 := HJ1.out.below hb4
        have HB4 := Lib.hid hb4
        have HJ14 := Lib.hid hj4
        have hz4 : w.heap.size + 1 ≤ w4.heap.size := by have := HR3.out.lt.1; have := hb4.size; omega
        clear hb4 hj4
        go_wp2_with (at_builtin; refine app1 tyInts _ rfl (.tmp 25) (.tmp 27) rfl (w.heap.size + 1) _ (J.map fun j => svOf (V j)) (va, vn, vc) w4.heap.size rfl (by rfl) #[.slice va vn vc] rfl (heap_alloc_new ..) (HJ14.out.below ((Below.refl _ _).alloc (Nat.le_refl _) _)) (by simp; omega) (by simp; omega) ?_; intro g' cap' w5 hown5 hbel5 hgr5; have HO5 := Lib.hid hown5; have HG5 := Lib.hid hgr5; clear hown5 hbel5 hgr5)
        have HF := Lib.hid (show SomeI w im n D V P (done ++ [lettB j]) cnt3 (.slice (some ⟨g', 0, none⟩) (J.length + 1) cap') w5 from by
          have hg5' : w3.grownBy w5 v.ownBlock := gb_trans (gb_of_below (HB4.out.alloc HB4.out.size _) _) HG5.out
          have hge : ∀ b, v.ownBlock = some b → w.heap.size + 1 ≤ b := fun b e => (World.ownsRow.lt HJ1.out b e).1
          refine ⟨HR3.out.kept hg5' (fun e => by have := hge _ e.symm; omega) (fun e => by have := hge _ e.symm; omega), ⟨J ++ [j], ?_, fun i hi => ?_, fun i h1 h2 h3 => ?_, by simp; have := HJ4.out; omega⟩, ⟨HJ5.out, HJ6.out⟩, HJ7.out.grown hg5' HJ7.out.size (fun b e => by have := hge b e; omega)⟩
          · rw [List.map_append]
            have := HO5.out
            rw [List.length_map] at this
            simp only [List.map_cons, List.map_nil, HVe.out, svOf]
            exact this
          · rcases List.mem_append.1 hi with hi | hi
            · exact HJ2.out i hi
            · simp at hi; rw [hi]; exact ⟨hj, HPj.out⟩
          · rcases List.mem_append.1 h2 with h2 | h2
            · exact List.mem_append.2 (.inl (HJ3.out i h1 h2 h3))
            · simp at h2
              have e := lett_inj (by omega) (by omega) h2
              rw [e]; simp)
        clear HO5 HG5
        go_roundw
        case rel => exact ⟨_, _, _, rfl, HF.out⟩
        case measure => rw [HF.out.rng.left, HMs.out]; exact HLt.out
      · have hPf : P (lettB j) = false := by simpa using hP
        rw [hPf] at HWs
        have HPj := Lib.hid hPf
        clear hP hPf
        go_wp2_with fail
        refine HWs.out.mono ?_
        rintro e w4 ⟨rfl, hb4⟩
        have HF := Lib.hid (show SomeI w im n D V P (done ++ [lettB j]) cnt3 v w4 from by
          refine (show SomeI w im n D V P (done ++ [lettB j]) cnt3 v w3 from ⟨HR3.out, ⟨J, HJ1.out, HJ2.out, fun i h1 h2 h3 => ?_, by simp; have := HJ4.out; omega⟩, ⟨HJ5.out, HJ6.out⟩, HJ7.out⟩).below hb4
          rcases List.mem_append.1 h2 with h2 | h2
          · exact HJ3.out i h1 h2 h3
          · simp at h2
            have e := lett_inj (by omega) (by omega) h2
            rw [e, HPj.out] at h3; cases h3)
        clear hb4
        go_wp2_with fail
        go_roundw
        case rel => exact ⟨_, _, _, rfl, HF.out⟩
        case measure => rw [HF.out.rng.left, HMs.out]; exact HLt.out

set_option maxRecDepth 100000 in
set_option maxHeartbeats 4000000 in
attribute [local go_sem ↓] Go.wp_at_zero Go.wp_at_succ in
theorem someA_any (F : Bl) (I n : Nat) (P : Bytes → Bool) (w : World) (h : IdxL F w I n) (hn0 : 0 < n) (hn : n ≤ 5)
    (hw : ∀ s W, Below w.heap.size w W → s.length ≤ 1 → Calls Tryz.prog 52 #[.string (bs s)] W fun e W' => e = .returned (.bool (P s)) ∧ Below W.heap.size W W') :
    Calls Tryz.prog 49 #[.pointer (some ⟨I, 0, none⟩), .string (bs [97]), .func (.func 52) #[] #[]] w (SomeA w n P) := by
  obtain ⟨av, km, hm, im, hx⟩ := h
  obtain ⟨-, -, c2, -⟩ := hx.cells
  have hlk := hx.h.look
  rw [if_neg (by omega)] at hlk
  obtain ⟨⟨D, f, V, h1, h2, h3, h4, h5⟩, -⟩ := hx.n hn0
  have HM := Lib.hid h1
  have HD := Lib.hid h2
  have H3 := Lib.hid h3
  have H4 := Lib.hid h4
  have H5 := Lib.hid h5
  have HW := Lib.hid hw
  have himl := World.ownsMap.lt h1
  clear hx h1 h2 h3 h4 h5 hw hn0
  go_enter Tryz.func49, Tryz.ntmps49
  go_wp2_with (at_range; refine wpList_range_own _ rfl _ 74 rfl 9 23 keyedStr Tryz.underlying74 rawE im n D rfl HM.out ?_; intro w2 hrg2 hg2 hs2)
  go_frame
  have HI0 := Lib.hid (show SomeI w im n D V P [] _ (.slice none 0 0) w2 from ⟨RngS.start hrg2, ⟨[], OwnR.nil _ _, by simp, by simp, Nat.le_refl _⟩, ⟨List.Pairwise.nil, by simp⟩, (Below.refl _ _).grown hg2 (Nat.le_refl _) (fun k hk => by cases hk)⟩)
  clear hrg2 hg2 hs2 hlk c2
  go_loopw [7] (fun x wq => ∃ v done cnt, x = v ∧ SomeI w im n D V P done cnt v wq) (fun _ wq => wq.rangeLeft im w.heap.size)
  case atStart => exact ⟨_, _, _, rfl, HI0.out⟩
  case round =>
    clear HI0
    obtain ⟨v, done, cnt, hv, hI⟩ := hrel
    have hv' := hv.symm
    clear hv
    subst hv'
    have HI := Lib.hid hI
    have HMs := Lib.hid hI.rng.left
    have HLn := Lib.hid hI.len
    clear hI
    go_wp2_with (at_next; refine next_str _ rfl (.tmp 16) rfl im w.heap.size n cnt n D f done rfl HI.out.rng HD.out ?_ ?_)
    · intro hdone
      have HDn := Lib.hid hdone
      clear hdone
      obtain ⟨-, ⟨J, j1, j2, j3, j4⟩, -, hb⟩ := HI.out
      have hls := ow_lists (V := V) j1 (fun j hj => (H5.out j (j2 j hj).1).1.below hb)
      have hJ : J.length ≤ 5 := by have := HLn.out; omega
      have HU := Lib.hid (P6.union_any 5 (J.map fun (j : Nat) => [(j : Int)]) v wr (by simpa using hJ) (Lib.hid hls) (Lib.hid (fun l hl => by obtain ⟨j, _, rfl⟩ := List.mem_map.1 hl; exact rising_one _)) (by rw [total_ones]; omega))
      have HEnd := Lib.hid (show ∀ (v' : Value) (r : List Int) (w' : World), P6.Ints w' v' r → Below wr.heap.size wr w' → P6.Rising r → r.length ≤ P6.total (J.map fun (j : Nat) => [(j : Int)]) → (∀ m, m ∈ r ↔ P6.InSome (J.map fun (j : Nat) => [(j : Int)]) m) → SomeA w n P (.returned v') w' from fun v' r w' a1 a2 a3 a4 a5 =>
        ⟨v', r, rfl, a1, a3, fun m => (a5 m).trans ⟨fun ⟨l, hl, hm⟩ => by
          obtain ⟨j, hj, rfl⟩ := List.mem_map.1 hl
          simp at hm
          exact ⟨j, (j2 j hj).1, hm, (j2 j hj).2⟩, fun ⟨j, e1, e2, e3⟩ => ⟨[(j : Int)], List.mem_map.2 ⟨j, j3 j e1 (HDn.out _ _ (H3.out j e1)) e3, rfl⟩, by simp [e2]⟩⟩, by rw [total_ones] at a4; have := HLn.out; omega, hb.trans (a2.mono hb.size)⟩)
      clear j1 j2 j3 j4 hb hls hJ
      go_wp2_with fail
      refine HU.out.mono ?_
      rintro e w4 ⟨v', r, rfl, u1, u2, u3, u4, u5⟩
      have HE := Lib.hid (HEnd.out v' r w4 u1 u2 u3 u4 u5)
      clear u1 u2 u3 u4 u5 HU HEnd
      go_wp2_with fail
      go_ret
      exact HE.out
    · intro nm vv w3 cnt3 hnd hf hr3 hlt3 hgr3 hsz3 hen3
      obtain ⟨j, hj, rfl, rfl⟩ := H4.out nm vv hf
      obtain ⟨J, j1, j2, j3, j4, j5, j6, j7⟩ := HI.out.next hr3 hgr3 hj hnd
      have hVs := (H5.out j hj).1.isSl
      obtain ⟨va, vn, vc, hve⟩ := hVs
      have HVe := Lib.hid hve
      rw [hve] at hen3
      rw [hve]
      have HWs := Lib.hid (HW.out (lettB j) w3 j7 (by simp [lettB]))
      have hJ5 : J.length ≤ 5 := by have := HLn.out; omega
      have HR3 := Lib.hid hr3
      have HJ1 := Lib.hid j1
      have HJ2 := Lib.hid j2
      have HJ3 := Lib.hid j3
      have HJ4 := Lib.hid j4
      have HJ5 := Lib.hid j5
      have HJ6 := Lib.hid j6
      have HJ7 := Lib.hid j7
      have HLt := Lib.hid hlt3
      clear hr3 hgr3 hsz3 hnd hf hve j1 j2 j3 j4 j5 j6 j7 hlt3
      by_cases hP : P (lettB j) = true
      · rw [hP] at HWs
        have HPj := Lib.hid hP
        clear hP
        go_wp2_with fail
        refine HWs.out.mono ?_
        rintro e w4 ⟨rfl, hb4⟩
        have hj4 := HJ1.out.below hb4
        have HB4 := Lib.hid hb4
        have HJ14 := Lib.hid hj4
        have hz4 : w.heap.size + 1 ≤ w4.heap.size := by have := HR3.out.lt.1; have := hb4.size; omega
        clear hb4 hj4
        go_wp2_with (at_builtin; refine app1 tyInts _ rfl (.tmp 25) (.tmp 27) rfl (w.heap.size + 1) _ (J.map fun j => svOf (V j)) (va, vn, vc) w4.heap.size rfl (by rfl) #[.slice va vn vc] rfl (heap_alloc_new ..) (HJ14.out.below ((Below.refl _ _).alloc (Nat.le_refl _) _)) (by simp; omega) (by simp; omega) ?_; intro g' cap' w5 hown5 hbel5 hgr5; have HO5 := Lib.hid hown5; have HG5 := Lib.hid hgr5; clear hown5 hbel5 hgr5)
        have HF := Lib.hid (show SomeI w im n D V P (done ++ [lettB j]) cnt3 (.slice (some ⟨g', 0, none⟩) (J.length + 1) cap') w5 from by
          have hg5' : w3.grownBy w5 v.ownBlock := gb_trans (gb_of_below (HB4.out.alloc HB4.out.size _) _) HG5.out
          have hge : ∀ b, v.ownBlock = some b → w.heap.size + 1 ≤ b := fun b e => (World.ownsRow.lt HJ1.out b e).1
          refine ⟨HR3.out.kept hg5' (fun e => by have := hge _ e.symm; omega) (fun e => by have := hge _ e.symm; omega), ⟨J ++ [j], ?_, fun i hi => ?_, fun i h1 h2 h3 => ?_, by simp; have := HJ4.out; omega⟩, ⟨HJ5.out, HJ6.out⟩, HJ7.out.grown hg5' HJ7.out.size (fun b e => by have := hge b e; omega)⟩
          · rw [List.map_append]
            have := HO5.out
            rw [List.length_map] at this
            simp only [List.map_cons, List.map_nil, HVe.out, svOf]
            exact this
          · rcases List.mem_append.1 hi with hi | hi
            · exact HJ2.out i hi
            · simp at hi; rw [hi]; exact ⟨hj, HPj.out⟩
          · rcases List.mem_append.1 h2 with h2 | h2
            · exact List.mem_append.2 (.inl (HJ3.out i h1 h2 h3))
            · simp at h2
              have e := lett_inj (by omega) (by omega) h2
              rw [e]; simp)
        clear HO5 HG5
        go_roundw
        case rel => exact ⟨_, _, _, rfl, HF.out⟩
        case measure => rw [HF.out.rng.left, HMs.out]; exact HLt.out
      · have hPf : P (lettB j) = false := by simpa using hP
        rw [hPf] at HWs
        have HPj := Lib.hid hPf
        clear hP hPf
        go_wp2_with fail
        refine HWs.out.mono ?_
        rintro e w4 ⟨rfl, hb4⟩
        have HF := Lib.hid (show SomeI w im n D V P (done ++ [lettB j]) cnt3 v w4 from by
          refine (show SomeI w im n D V P (done ++ [lettB j]) cnt3 v w3 from ⟨HR3.out, ⟨J, HJ1.out, HJ2.out, fun i h1 h2 h3 => ?_, by simp; have := HJ4.out; omega⟩, ⟨HJ5.out, HJ6.out⟩, HJ7.out⟩).below hb4
          rcases List.mem_append.1 h2 with h2 | h2
          · exact HJ3.out i h1 h2 h3
          · simp at h2
            have e := lett_inj (by omega) (by omega) h2
            rw [e, HPj.out] at h3; cases h3)
        clear hb4
        go_wp2_with fail
        go_roundw
        case rel => exact ⟨_, _, _, rfl, HF.out⟩
        case measure => rw [HF.out.rng.left, HMs.out]; exact HLt.out

end Go.Proofs.YtheenlomlmbjaaaGreatDoor

namespace Go.Proofs.YtheenlomlmbjaaaGreatDoor
open Go.RowKit Go.Maps

theorem upto_p6 (n : Nat) : P6.Rising (upto n) := upto_rise n
theorem keepCB' {w8 w' w'' : World} {K i : Nat} {v : Value} (h : w'.cell? ⟨K, i, none⟩ = some v ∧ Below w8.heap.size w8 w') (hb : Below w'.heap.size w' w'') : w''.cell? ⟨K, i, none⟩ = some v ∧ Below w8.heap.size w8 w'' :=
  ⟨(hb.cell (p := ⟨K, i, none⟩) (World.block_lt_of_cell? w' _ h.1)).trans h.1, h.2.trans (hb.mono h.2.size)⟩
def OfA (w : World) (n : Nat) (P : Bytes → Bool) (e : Ending) (w' : World) : Prop := ∃ v r, e = .returned v ∧ P6.Ints w' v r ∧ P6.Rising r ∧ (∀ m, m ∈ r ↔ ∃ j, j < n ∧ m = (j : Int) ∧ P (lettB j) = true) ∧ r.length ≤ 100 ∧ Below w.heap.size w w'
set_option maxRecDepth 100000 in
set_option maxHeartbeats 4000000 in
theorem of_any (F : Bl) (I n : Nat) (k : Int) (x : Bytes) (w : World) (h : IdxL F w I n) (hn0 : 0 < n) (hn : n ≤ 5) (hx : x.length ≤ 1000000) :
    Calls Tryz.prog 20 #[.pointer (some ⟨I, 0, none⟩), .agg #[.int .i64 k, .string (bs [97]), .string (bs x), .slice none 0 0]] w (OfA w n (oneP k x)) := by
  have HX := Lib.hid h
  have HB := Lib.hid (heap_alloc_new w (.cells #[.int .i64 k, .string (bs [97]), .string (bs x), .slice none 0 0] 38))
  have HBl := Lib.hid (show Below w.heap.size w (w.alloc (.cells #[.int .i64 k, .string (bs [97]), .string (bs x), .slice none 0 0] 38)) from (Below.refl _ _).alloc (Nat.le_refl _) _)
  clear h
  go_enter Tryz.func20, Tryz.ntmps20
  go_wp2_with fail
  generalize w.alloc (.cells #[.int .i64 k, .string (bs [97]), .string (bs x), .slice none 0 0] 38) = W at *
  obtain ⟨B, hB⟩ : ∃ B, B = w.heap.size := ⟨_, rfl⟩
  rw [← hB] at HB ⊢
  clear hB
  have HW := Lib.hid (fun (s : Bytes) (W' : World) (hb : Below W.heap.size W W') (hs : s.length ≤ 1000) => of1_any k x s (.slice none 0 0) B W' ((hb.block B (lt_of_heap HB.out)).trans HB.out) (L4.Strs.nil _ _) hx hs)
  refine (someM_any F I n (oneP k x) B W (HX.out.below HBl.out) hn0 hn (fun s W' hb hs => HW.out s W' hb (by omega))).mono ?_
  rintro e w1 ⟨v, r, rfl, hi, hr, hm, hl, hb1⟩
  have HI1 := Lib.hid hi
  obtain ⟨va, vc, rfl, -⟩ := hi
  have HR := Lib.hid hr
  have HMm := Lib.hid hm
  have HL := Lib.hid hl
  have HB1 := Lib.hid (HBl.out.trans (hb1.mono HBl.out.size))
  have HW1 := Lib.hid hb1
  clear hr hm hl hb1 HBl
  go_wp2_with fail
  by_cases hP : oneP k x [] = true
  · have HC1 := Lib.hid (HW.out [] w1 HW1.out (by simp))
    rw [hP] at HC1
    clear hP
    refine HC1.out.mono ?_
    rintro e w2 ⟨rfl, hb2⟩
    have HB2 := Lib.hid (HB1.out.trans (hb2.mono HB1.out.size))
    have HW2 := Lib.hid (HW1.out.trans (hb2.mono HW1.out.size))
    have HI2 := Lib.hid (HI1.out.below hb2)
    have HE := Lib.hid (fun W' (hb : Below w2.heap.size w2 W') => every_any (F := F) (I := I) (n := n) (HX.out.below (HB2.out.trans (hb.mono HB2.out.size))) (by omega))
    have HSm := Lib.hid (fun W' (hb : Below w2.heap.size w2 W') => someA_any F I n (fun _ => true) W' (HX.out.below (HB2.out.trans (hb.mono HB2.out.size))) hn0 hn (fun s W'' hb hs => of2_any s W''))
    have c2 : w2.cell? ⟨B, 1, none⟩ = some (.string (bs [97])) := by rw [cell_of_row w2 _ _ _ _ _ ((HW2.out.block B (lt_of_heap HB.out)).trans HB.out)]; rfl
    have HS0 := Lib.hid (show w2.drew.cell? ⟨B, 1, none⟩ = some (.string (bs [97])) ∧ Below w2.heap.size w2 w2.drew from ⟨c2, (Below.refl _ _).drew⟩)
    have HIb := Lib.hid (fun (A C : World) (v : Value) (l : List Int) (h : P6.Ints A v l) (hb : Below A.heap.size A C) => h.below hb)
    have hn5 : n ≤ 5 := hn
    clear hb2 HC1 c2
    go_wp2_with fail
    go_region_held3 (fun w' => w'.cell? ⟨B, 1, none⟩ = some (.string (bs [97])) ∧ Below w2.heap.size w2 w')
      (first | assumption | exact HS0.out | exact keepCB' (by assumption) hbO | exact keepCB' (by assumption) hbN | exact keepCB' (by assumption) hbE | exact keepCB' (by assumption) hbS | exact keepCB' (by assumption) (Below.refl _ _).drew)
      (first
        | (go_at_call 17; refine (HE.out _ (And.right (by assumption))).mono ?_; rintro e wE ⟨vE, rfl, hoE, hbE⟩)
        | (go_at_call 49; refine (HSm.out _ (And.right (by assumption))).mono ?_; rintro e wS ⟨vS, rS, rfl, hiS, hrS, hmS, hlS, hbS⟩)
        | (go_at_call 51; refine (P6.not_any vE vS (upto n) rS _ (by first | exact (RowG.ints hoE.rowG).below hbS | exact RowG.ints hoE.rowG) (by first | exact hiS.below hbE | exact hiS) (upto_p6 n) hrS (by rw [upto_len]; omega)).mono ?_; rintro e wN ⟨vN, rN, rfl, hoN, hbN, hrN, hlN, hmN⟩)
        | (go_at_call 50; refine (P6.or_any _ vN r rN _ (HI2.out.below (And.right (by assumption))) (RowG.ints (P6Own.ownR hoN).rowG) HR.out hrN (by rw [upto_len] at hlN; have := HL.out; omega)).mono ?_; rintro e wO ⟨vO, rO, rfl, hoO, hbO, hrO, hlO, hmO⟩))
    all_goals
      (have hS : wO.cell? ⟨B, 1, none⟩ = some (.string (bs [97])) ∧ Below w2.heap.size w2 wO := by assumption
       have HEnd := Lib.hid (show OfA w n (oneP k x) (.returned vO) wO from ⟨vO, rO, rfl, RowG.ints (P6Own.ownR hoO).rowG, hrO, fun m => (hmO m).trans ⟨fun h => h.elim (HMm.out m).1 (fun h => by
         have h1 := (hmN m).1 h
         exact absurd ((hmS m).2 (by obtain ⟨j, h2, h3⟩ := upto_mem.1 h1.1; exact ⟨j, h2, h3, trivial⟩)) h1.2), fun h => .inl ((HMm.out m).2 h)⟩, by rw [upto_len] at hlN; have := HL.out; omega, HB2.out.trans (hS.2.mono HB2.out.size)⟩)
       clear hS hoE hbE hiS hrS hmS hlS hbS hoN hbN hrN hlN hmN hoO hbO hrO hlO hmO
       go_wp2_with fail
       go_ret
       exact HEnd.out)
  · have hPf : oneP k x [] = false := by simpa using hP
    have HC1 := Lib.hid (HW.out [] w1 HW1.out (by simp))
    rw [hPf] at HC1
    clear hP hPf
    refine HC1.out.mono ?_
    rintro e w2 ⟨rfl, hb2⟩
    have HEnd := Lib.hid (show OfA w n (oneP k x) (.returned (.slice va r.length vc)) w2 from ⟨_, r, rfl, HI1.out.below hb2, HR.out, HMm.out, by have := HL.out; omega, HB1.out.trans (hb2.mono HB1.out.size)⟩)
    clear hb2
    go_wp2_with fail
    go_ret
    exact HEnd.out

def meansL (n : Nat) (k : Int) (x : Bytes) : List Int := (upto n).filter fun m => oneP k x (lettB m.toNat)
theorem meansL_mem {n : Nat} {k : Int} {x : Bytes} {m : Int} : m ∈ meansL n k x ↔ ∃ j, j < n ∧ m = (j : Int) ∧ oneP k x (lettB j) = true := by
  unfold meansL
  rw [List.mem_filter, upto_mem]
  exact ⟨fun ⟨⟨j, h1, h2⟩, h3⟩ => ⟨j, h1, h2, by rw [h2] at h3; simpa using h3⟩, fun ⟨j, h1, h2, h3⟩ => ⟨⟨j, h1, h2⟩, by rw [h2]; simpa using h3⟩⟩
theorem meansL_rise (n : Nat) (k : Int) (x : Bytes) : (meansL n k x).Pairwise (· < ·) := (upto_rise n).filter _
def selE (k : Int) (x : Bytes) : Int := L4.errM (L4.okM k [97] x [])
def selL (n : Nat) (k : Int) (x : Bytes) : List Int := if L4.okM k [97] x [] = true then meansL n k x else []
theorem mcheck_low (k : Int) (x : Bytes) (w : World) (hk : k = 0 ∨ k = 1 ∨ k = 2) :
    Calls Tryz.prog 18 #[.agg #[.int .i64 k, .string (bs [97]), .string (bs x), .slice none 0 0]] w fun e w' => e = .returned (.int .i64 (selE k x)) ∧ Below w.heap.size w w' := by
  unfold selE
  rcases hk with rfl | rfl | rfl
  · exact L4.mcheck_0 [97] x _ [] w (L4.Strs.nil _ _)
  · exact L4.mcheck_1 [97] x _ [] w (L4.Strs.nil _ _)
  · exact L4.mcheck_2 [97] x _ [] w (L4.Strs.nil _ _)
def SelA (w : World) (n : Nat) (k : Int) (x : Bytes) (e : Ending) (w' : World) : Prop := ∃ v, e = .returned (.tuple #[v, .int .i64 (selE k x)]) ∧ P6.Ints w' v (selL n k x) ∧ Below w.heap.size w w'
set_option maxRecDepth 100000 in
set_option maxHeartbeats 4000000 in
theorem select_any (F : Bl) (I n : Nat) (k : Int) (x : Bytes) (b off cap : Nat) (w : World) (h : IdxL F w I n) (hn0 : 0 < n) (hn : n ≤ 5) (hx : x.length ≤ 1000000) (hk : k = 0 ∨ k = 1 ∨ k = 2) (hcap : 1 ≤ cap) (hcm : cap ≤ 9223372036854775807)
    (c0 : w.cell? ⟨b, off, none⟩ = some (.int .i64 k)) (c1 : w.cell? ⟨b, off + 1, none⟩ = some (.string (bs [97]))) (c2 : w.cell? ⟨b, off + 2, none⟩ = some (.string (bs x))) (c3 : w.cell? ⟨b, off + 3, none⟩ = some (.slice none 0 0)) :
    Calls Tryz.prog 10 #[.pointer (some ⟨I, 0, none⟩), .slice (some ⟨b, off, none⟩) 1 cap] w (SelA w n k x) := by
  have HX := Lib.hid h
  have HE := Lib.hid (every_any h (by omega))
  have hbl := World.block_lt_of_cell? w _ c0
  have HK := Lib.hid hk
  have HC := Lib.hid (fun W (hb : Below w.heap.size w W) => (⟨(hb.cell (p := ⟨b, off, none⟩) hbl).trans c0, (hb.cell (p := ⟨b, off + 1, none⟩) hbl).trans c1, (hb.cell (p := ⟨b, off + 2, none⟩) hbl).trans c2, (hb.cell (p := ⟨b, off + 3, none⟩) hbl).trans c3⟩ : W.cell? ⟨b, off, none⟩ = some (.int .i64 k) ∧ W.cell? ⟨b, off + 1, none⟩ = some (.string (bs [97])) ∧ W.cell? ⟨b, off + 2, none⟩ = some (.string (bs x)) ∧ W.cell? ⟨b, off + 3, none⟩ = some (.slice none 0 0)))
  clear h hk c0 c1 c2 c3
  go_enter Tryz.func10, Tryz.ntmps10
  go_wp2_with fail
  refine HE.out.mono ?_
  rintro e w1 ⟨v, rfl, ho, hb1⟩
  obtain ⟨va, vn, vc, rfl⟩ := ho.isSl
  have HO := Lib.hid ho
  have HB1 := Lib.hid hb1
  obtain ⟨d0, d1, d2, d3⟩ := HC.out w1 hb1
  clear ho hb1 HE
  go_wp2_with fail
  refine wp_loop_rounds 2 ?_
  rw [rounds_succ]
  go_wp2_with fail
  generalize hW : w1.alloc (.cells #[.int .i64 k, .string (bs [97]), .string (bs x), .slice none 0 0] 38) = W at *
  have HB2 := Lib.hid (show Below w.heap.size w W by rw [← hW]; exact HB1.out.alloc HB1.out.size _)
  have HO2 := Lib.hid (HO.out.below (show Below w1.heap.size w1 W by rw [← hW]; exact (Below.refl _ _).alloc (Nat.le_refl _) _))
  have HM := Lib.hid (show W.heap[w1.heap.size]? = some (.cells #[.int .i64 k, .string (bs [97]), .string (bs x), .slice none 0 0] 38 (0, 0)) by rw [← hW]; exact heap_alloc_new ..)
  clear hW d0 d1 d2 d3 hbl HO
  generalize w1.heap.size = M at *
  refine (mcheck_low k x W HK.out).mono ?_
  rintro e w2 ⟨rfl, hb2⟩
  have HB3 := Lib.hid (HB2.out.trans (hb2.mono HB2.out.size))
  have HO3 := Lib.hid (HO2.out.below hb2)
  have hM3 := (hb2.block M (lt_of_heap HM.out)).trans HM.out
  have m0 : w2.cell? ⟨M, 0, none⟩ = some (.int .i64 k) := by rw [cell_of_row w2 _ _ _ _ _ hM3]; rfl
  have m1 : w2.cell? ⟨M, 1, none⟩ = some (.string (bs [97])) := by rw [cell_of_row w2 _ _ _ _ _ hM3]; rfl
  have m2 : w2.cell? ⟨M, 2, none⟩ = some (.string (bs x)) := by rw [cell_of_row w2 _ _ _ _ _ hM3]; rfl
  have m3 : w2.cell? ⟨M, 3, none⟩ = some (.slice none 0 0) := by rw [cell_of_row w2 _ _ _ _ _ hM3]; rfl
  clear hb2 hM3 HM HO2
  by_cases hok : L4.okM k [97] x [] = true
  · have hse : selE k x = 0 := by unfold selE; rw [hok]; rfl
    have HSL := Lib.hid (show selL n k x = meansL n k x by unfold selL; rw [if_pos hok])
    have HSE := Lib.hid hse
    rw [hse]
    clear hok hse
    go_wp2_with fail
    refine (of_any F I n k x w2 (HX.out.below HB3.out) hn0 hn hx).mono ?_
    rintro e w3 ⟨u, r, rfl, hi, hr, hm, hl, hb3⟩
    have HB4 := Lib.hid (HB3.out.trans (hb3.mono HB3.out.size))
    have HA := Lib.hid (P6.and_any (.slice va vn vc) u (upto n) r w3 (RowG.ints (HO3.out.below hb3).rowG) hi (upto_p6 n) hr (by rw [upto_len]; omega))
    have HMm := Lib.hid hm
    obtain ⟨ua, uc, rfl, -⟩ := hi
    clear hr hm hl hb3 m0 m1 m2 m3
    go_wp2_with fail
    refine HA.out.mono ?_
    rintro e w4 ⟨v4, r4, rfl, ho4, hb4, hr4, hl4, hm4⟩
    have HEnd := Lib.hid (show SelA w n k x (.returned (.tuple #[v4, .int .i64 0])) w4 from by
      have e4 : r4 = meansL n k x := rise_ext hr4 (meansL_rise n k x) (fun z => (hm4 z).trans ⟨fun h => meansL_mem.2 ((HMm.out z).1 h.2), fun h => by
        have h1 := meansL_mem.1 h
        exact ⟨by obtain ⟨j, h2, h3, _⟩ := h1; exact upto_mem.2 ⟨j, h2, h3⟩, (HMm.out z).2 h1⟩⟩)
      refine ⟨v4, by rw [HSE.out], ?_, HB4.out.trans (hb4.mono HB4.out.size)⟩
      rw [HSL.out, ← e4]
      exact RowG.ints (P6Own.ownR ho4).rowG)
    obtain ⟨v4a, v4n, v4c, rfl⟩ := (P6Own.ownR ho4).isSl
    clear ho4 hb4 hr4 hl4 hm4 HA HMm
    go_wp2_with fail
    rw [rounds_succ]
    go_wp2_with fail
    go_ret2
    exact HEnd.out
  · have hse : selE k x = 50 := by unfold selE; rw [show L4.okM k [97] x [] = false by simpa using hok]; rfl
    have HSL := Lib.hid (show selL n k x = [] by unfold selL; rw [if_neg hok])
    have HSE := Lib.hid hse
    rw [hse]
    clear hok hse
    go_wp2_with fail
    go_ret2
    exact ⟨.slice none 0 0, by rw [HSE.out]; rfl, by rw [HSL.out]; exact ⟨none, 0, rfl, Nat.le_refl _, by omega, fun h => absurd rfl h⟩, HB3.out⟩

end Go.Proofs.YtheenlomlmbjaaaGreatDoor

namespace Go.Proofs.YtheenlomlmbjaaaGreatDoor
open Go.RowKit

def rowsP (L : List Int) (H : List Ser) : List Rw := (H.filter fun s => P6.hasB L s.1).flatMap rowsS
theorem smpOf_app (A B : List Rw) (id : Int) : smpOf (A ++ B) id = smpOf A id ++ smpOf B id := by simp [smpOf]
theorem smpOf_rowsS (s : Ser) (id : Int) : smpOf (rowsS s) id = if s.1 = id then s.2 else [] := by
  by_cases e : s.1 = id
  · rw [if_pos e]
    unfold smpOf rowsS
    rw [List.filter_eq_self.2 (by intro r hr; obtain ⟨p, _, rfl⟩ := List.mem_map.1 hr; simpa using e), List.map_map]
    simp [Function.comp_def]
  · rw [if_neg e]
    unfold smpOf rowsS
    rw [List.filter_eq_nil_iff.2 (by intro r hr; obtain ⟨p, _, rfl⟩ := List.mem_map.1 hr; simpa using e)]; rfl
theorem smpOf_flat {S : List Ser} (h : RiseC cmpS S) (id : Int) : smpOf (S.flatMap rowsS) id = [] ∨ ∃ s ∈ S, s.1 = id ∧ smpOf (S.flatMap rowsS) id = s.2 := by
  induction S with
  | nil => exact .inl rfl
  | cons s S ih =>
    have hp := List.pairwise_cons.1 h
    rw [List.flatMap_cons, smpOf_app, smpOf_rowsS]
    by_cases e : s.1 = id
    · rw [if_pos e]
      refine .inr ⟨s, List.mem_cons_self .., e, ?_⟩
      rcases ih hp.2 with h1 | ⟨s', hs', h1, _⟩
      · rw [h1, List.append_nil]
      · have := cmpS_lt.1 (hp.1 s' hs')
        omega
    · rw [if_neg e, List.nil_append]
      rcases ih hp.2 with h1 | ⟨s', hs', h1⟩
      · exact .inl h1
      · exact .inr ⟨s', List.mem_cons_of_mem _ hs', h1⟩
theorem rowsP_mem {L : List Int} {H : List Ser} {r : Rw} (h : r ∈ rowsP L H) : ∃ s ∈ H, P6.hasB L s.1 = true ∧ r.2.1 = s.1 ∧ (r.1, r.2.2) ∈ s.2 := by
  obtain ⟨s, hs, hr⟩ := List.mem_flatMap.1 h
  rw [List.mem_filter] at hs
  obtain ⟨p, hp, rfl⟩ := List.mem_map.1 hr
  exact ⟨s, hs.1, hs.2, rfl, hp⟩
theorem rowsP_prise {L : List Int} {H : List Ser} (hH : SOk H) : PRise (rowsP L H) := by
  have hS : RiseC cmpS (H.filter fun s => P6.hasB L s.1) := hH.rise.filter _
  refine ⟨fun id => ?_, fun r hr => ?_⟩
  · rcases smpOf_flat hS id with h | ⟨s, hs, _, h⟩
    · unfold rowsP; rw [h]; exact List.Pairwise.nil
    · unfold rowsP; rw [h]; exact hH.rises s (List.mem_filter.1 hs).1
  · obtain ⟨s, hs, _, e1, e2⟩ := rowsP_mem hr
    have := hH.ok s hs _ e2
    have h2 := hH.id s hs
    rw [← e1] at h2
    exact ⟨this, h2⟩
theorem rowsP_smp {L : List Int} {H : List Ser} {ts : List Int} (hH : HOk ts H) (hl : ts.length ≤ 12) (id : Int) : (smpOf (rowsP L H) id).length ≤ 12 := by
  have hS : RiseC cmpS (H.filter fun s => P6.hasB L s.1) := hH.ok.rise.filter _
  rcases smpOf_flat hS id with h | ⟨s, hs, _, h⟩
  · unfold rowsP; rw [h]; simp
  · unfold rowsP; rw [h]
    have := hH.each (List.mem_filter.1 hs).1
    omega
theorem rowsP_len {L : List Int} (H : List Ser) : (rowsP L H).length ≤ tot H := by
  induction H with
  | nil => simp [rowsP, tot]
  | cons s H ih =>
    have e : tot (s :: H) = s.2.length + tot H := by simp [tot]
    unfold rowsP at *
    rw [e, List.filter_cons]
    split
    · rw [List.flatMap_cons, List.length_append]
      have : (rowsS s).length = s.2.length := by simp [rowsS]
      omega
    · omega
theorem rowsP_ids {L : List Int} {H : List Ser} {ts : List Int} (hH : HOk ts H) (ht : ts ≠ []) (hL : ∀ m ∈ L, 0 ≤ m ∧ m < 5) {id : Int} : id ∈ idsOf (rowsP L H) ↔ id ∈ L := by
  rw [idsOf_mem]
  constructor
  · rintro ⟨r, hr, rfl⟩
    obtain ⟨s, hs, h1, h2, _⟩ := rowsP_mem hr
    rw [h2]
    simpa [P6.hasB] using h1
  · intro h
    obtain ⟨h0, h1⟩ := hL id h
    obtain ⟨s, hs, rfl⟩ := List.mem_map.1 (hH.all ht id h0 h1)
    have hne := hH.ok.one s hs
    obtain ⟨p, q, e⟩ := List.exists_cons_of_ne_nil hne
    refine ⟨(p.1, s.1, p.2), ?_, rfl⟩
    refine List.mem_flatMap.2 ⟨s, List.mem_filter.2 ⟨hs, by simpa [P6.hasB] using h⟩, List.mem_map.2 ⟨p, by rw [e]; exact List.mem_cons_self .., rfl⟩⟩
theorem rowsP_put {L : List Int} {H : List Ser} {ts : List Int} (hH : HOk ts H) (ht : ts ≠ []) (hL : ∀ m ∈ L, 0 ≤ m ∧ m < 5) (hr : L.Pairwise (· < ·)) : (putL [] (rowsP L H)).map (·.1) = L := by
  rw [putL_nil, List.map_map]
  have e : ((fun s : Ser => s.1) ∘ fun id => (id, smpOf (rowsP L H) id)) = id := rfl
  rw [e, List.map_id]
  exact rise_ext (idsOf_rise _) hr (fun z => rowsP_ids hH ht hL)
theorem rowsP_take (L : List Int) (H : List Ser) {k : Nat} (h : k < H.length) : rowsP L (H.take (k + 1)) = if P6.hasB L (H.getD k (0, [])).1 then rowsP L (H.take k) ++ rowsS (H.getD k (0, [])) else rowsP L (H.take k) := by
  unfold rowsP
  rw [snoc_take H (0, []) h, List.filter_append, List.flatMap_append]
  generalize H.getD k (0, []) = s
  by_cases e : P6.hasB L s.1 = true
  · rw [if_pos e, List.filter_cons, if_pos e, List.filter_nil, List.flatMap_cons, List.flatMap_nil, List.append_nil]
  · rw [if_neg e, List.filter_cons, if_neg e, List.filter_nil, List.flatMap_nil, List.append_nil]
theorem rowsOf_one (id : Int) (l : List Smp) : rowsOf [(id, l)] = rowsS (id, l) := by
  unfold rowsOf
  rw [List.foldl_cons, List.foldl_nil, mergeF_nil]
theorem selL_in {n : Nat} {k : Int} {x : Bytes} : ∀ m ∈ selL n k x, 0 ≤ m ∧ m < n := by
  intro m hm
  unfold selL at hm
  split at hm
  · obtain ⟨j, h1, h2, _⟩ := meansL_mem.1 hm
    omega
  · cases hm
theorem selL_rise (n : Nat) (k : Int) (x : Bytes) : (selL n k x).Pairwise (· < ·) := by
  unfold selL
  split
  · exact meansL_rise n k x
  · exact List.Pairwise.nil
theorem selE_or (n : Nat) (k : Int) (x : Bytes) : selE k x = 0 ∨ selE k x = 50 ∧ selL n k x = [] := by
  by_cases h : L4.okM k [97] x [] = true
  · left; unfold selE; rw [h]; rfl
  · right
    exact ⟨by unfold selE; rw [show L4.okM k [97] x [] = false by simpa using h]; rfl, by unfold selL; rw [if_neg h]⟩

section
variable {α : Type} {st t k bytes : Nat} {enc : α → List Value}
theorem stepAppG (E : ETy st t k bytes enc) (w : World) {ops : Array Oper} {o : Oper} {a : Act} {K : Act → World → Prop} {Q : Exit → Act → World → Prop} {Ex : Prop} (hgd : o.guard = none) (s x : Operand)
    (ho : o.op = .call { callee := .builtin .append, args := #[s, x], argTypes := #[st, st] })
    (base : Nat) (v u : Value) (l l2 : List α) (hs : a.eval s = v) (hx : a.eval x = u) (hown : OwnR t k enc w base v l) (hu : RowG k enc w u l2) (h2 : l2 ≠ []) (hlen : l.length + l2.length ≤ 1000000000) (hbase : base ≤ w.heap.size)
    (h : ∀ v' w', OwnR t k enc w' base v' (l ++ l2) → Below base w w' → K (a.put o.dst v') w') :
    if Region.wanted o (yielded ops a.tmps) = true then Oper.wp Tryz.prog o a w K Q else Ex := by
  obtain ⟨z, hz, hzk⟩ := E.info
  obtain ⟨i0, hi, hz0, hz1, hz2⟩ := info_parts hz
  obtain ⟨ao, cap, rfl, h3, h4, h5, h6, h7⟩ := hu.src E.len
  have hpos : 0 < l2.length := List.length_pos_iff.2 h2
  have hone : ∀ u ∈ l2.flatMap enc, u.oneCell' = true := by
    intro u hu
    obtain ⟨x, _, hx⟩ := List.mem_flatMap.1 hu
    exact E.one x u hx
  have hb : (l.length + l2.length) * bytes ≤ 1000000000 * 100 := Nat.mul_le_mul hlen E.small
  cases ao with
  | none => obtain ⟨h8, _⟩ := h6 rfl; omega
  | some ad =>
    refine step_append_lies w hgd s x st ho base t i0 z k bytes E.und hi hz0 hz1 hz2 hzk E.pos v l.length _ hs hown
      ad l2.length cap (l2.flatMap enc) hx h5 (h7 ad rfl) hone hpos (by simp only [maxLen]; omega) (by omega) hbase _ rfl ?_
    intro g cap' w' h1 h2 _ _
    refine h _ w' ?_ ((Below.refl _ _).grown h2 hbase (fun k hk => (hown.lt k hk).1))
    unfold OwnR
    rw [List.length_append, List.flatMap_append]
    exact h1
end

end Go.Proofs.YtheenlomlmbjaaaGreatDoor

namespace Go.Proofs.YtheenlomlmbjaaaGreatDoor
open Go.RowKit Go.Maps

def MatV (w : World) (b off : Nat) (k : Int) (x : Bytes) : Prop := w.cell? ⟨b, off, none⟩ = some (.int .i64 k) ∧ w.cell? ⟨b, off + 1, none⟩ = some (.string (bs [97])) ∧ w.cell? ⟨b, off + 2, none⟩ = some (.string (bs x)) ∧ w.cell? ⟨b, off + 3, none⟩ = some (.slice none 0 0)
theorem MatV.below {w w' : World} {b off : Nat} {k : Int} {x : Bytes} (h : MatV w b off k x) (hb : Below w.heap.size w w') : MatV w' b off k x := by
  have hl := World.block_lt_of_cell? w _ h.1
  exact ⟨(hb.cell (p := ⟨b, off, none⟩) hl).trans h.1, (hb.cell (p := ⟨b, off + 1, none⟩) hl).trans h.2.1, (hb.cell (p := ⟨b, off + 2, none⟩) hl).trans h.2.2.1, (hb.cell (p := ⟨b, off + 3, none⟩) hl).trans h.2.2.2⟩
abbrev rgAll : Value := .agg #[.int .i64 0, .int .i64 1099511627776]
set_option maxRecDepth 100000 in
set_option maxHeartbeats 4000000 in
theorem meant_any (FI : Bl) (X d S I p : Nat) (hv : Value) (k : Int) (x : Bytes) (b off cap : Nat) (w : World) (hx : w.heap[X]? = some (.cells (dbC d S I p (.slice none 0 0) 0 hv) 95 (0, 0))) (hi : IdxL FI w I 5) (hl : x.length ≤ 1000000) (hk : k = 0 ∨ k = 1 ∨ k = 2) (hcap : 1 ≤ cap) (hcm : cap ≤ 9223372036854775807) (hm : MatV w b off k x) :
    Calls Tryz.prog 21 #[.pointer (some ⟨X, 0, none⟩), .slice (some ⟨b, off, none⟩) 1 cap, rgAll] w (SelA w 5 k x) := by
  obtain ⟨-, -, c2, -⟩ := dbC_cells hx
  have hXl := lt_of_heap hx
  have HBl := Lib.hid (show Below w.heap.size w (w.alloc (.cells #[.int .i64 0, .int .i64 1099511627776] 46)) from (Below.refl _ _).alloc (Nat.le_refl _) _)
  have HR := Lib.hid (heap_alloc_new w (.cells #[.int .i64 0, .int .i64 1099511627776] 46))
  have HS := Lib.hid (fun (W : World) (hb : Below w.heap.size w W) => select_any FI I 5 k x b off cap W (hi.below hb) (by omega) (by omega) hl hk hcap hcm (hm.below hb).1 (hm.below hb).2.1 (hm.below hb).2.2.1 (hm.below hb).2.2.2)
  clear hx hi hm
  go_enter Tryz.func21, Tryz.ntmps21
  go_wp2_with fail
  generalize w.alloc (.cells #[.int .i64 0, .int .i64 1099511627776] 46) = W at *
  have x2 := (HBl.out.cell (p := ⟨X, 2, none⟩) hXl).trans c2
  clear c2
  go_wp2_with fail
  refine (HS.out W HBl.out).mono ?_
  rintro e w1 ⟨v, rfl, hv, hb1⟩
  have HV := Lib.hid hv
  have HB1 := Lib.hid (HBl.out.trans (hb1.mono HBl.out.size))
  have hR1 := (hb1.block _ (lt_of_heap HR.out)).trans HR.out
  have r0 : w1.cell? ⟨w.heap.size, 0, none⟩ = some (.int .i64 0) := by rw [cell_of_row w1 _ _ _ _ _ hR1]; rfl
  have r1 : w1.cell? ⟨w.heap.size, 1, none⟩ = some (.int .i64 1099511627776) := by rw [cell_of_row w1 _ _ _ _ _ hR1]; rfl
  obtain ⟨va, vc, rfl, -⟩ := hv
  have HSE := Lib.hid (selE_or 5 k x)
  obtain ⟨L, hL⟩ : ∃ L, L = selL 5 k x := ⟨_, rfl⟩
  have HL := Lib.hid hL
  rw [← hL] at HV HSE ⊢
  generalize hE : selE k x = E at *
  have HE := Lib.hid hE
  generalize L.length = n at *
  clear hb1 hR1 HBl HS hE hL
  rcases HSE.out with rfl | ⟨rfl, hnil⟩
  · go_wp2_with fail
    refine (may_any w1).mono ?_
    rintro e w2 ⟨rfl, hb2⟩
    have HEnd := Lib.hid (show SelA w 5 k x (.returned (.tuple #[.slice va n vc, .int .i64 0])) w2 from ⟨_, by rw [HE.out], by rw [← HL.out]; exact HV.out.below hb2, HB1.out.trans (hb2.mono HB1.out.size)⟩)
    clear hb2
    go_wp2_with fail
    go_ret2
    exact HEnd.out
  · have HEnd := Lib.hid (show SelA w 5 k x (.returned (.tuple #[.slice none 0 0, .int .i64 50])) w1 from ⟨_, by rw [HE.out], by rw [← HL.out, hnil]; exact ⟨none, 0, rfl, Nat.le_refl _, by omega, fun h => absurd rfl h⟩, HB1.out⟩)
    clear hnil
    go_wp2_with fail
    go_ret2
    exact HEnd.out

end Go.Proofs.YtheenlomlmbjaaaGreatDoor

namespace Go.Proofs.YtheenlomlmbjaaaGreatDoor
open Go.RowKit Go.Maps

theorem oneSerV {W : World} {id : Int} {ua : Option Addr} {un uc : Nat} {l : List Smp} (hu : RowG 2 encS W (.slice ua un uc) l) :
    SerV (W.alloc (.cells #[.int .i64 id, .slice ua un uc] 49)) (.slice (some ⟨W.heap.size, 0, none⟩) 1 1) [(id, l)] :=
  ⟨[(id, (ua, un, uc), l)], rfl, RowG.ofHeap (heap_alloc_new ..) rfl rfl (by omega), fun z hz => by
    rw [List.mem_singleton] at hz
    subst hz
    exact hu.below ((Below.refl _ _).alloc (Nat.le_refl _) _)⟩
theorem HOk.sub {ts : List Int} {H : List Ser} (hH : HOk ts H) (hl : ts.length ≤ 12) (L : List Int) (k : Nat) : (rowsP L (H.take k)).length ≤ 60 := by
  have h1 := rowsP_len (L := L) (H.take k)
  have h2 := tot_take H k
  have h3 := hH.tot hl
  omega
def LookA (L : List Int) (H : List Ser) (w : World) (e : Ending) (w' : World) : Prop := ∃ v, e = .returned v ∧ SerV w' v (putL [] (rowsP L H)) ∧ Below w.heap.size w w'
set_option maxRecDepth 100000 in
set_option maxHeartbeats 4000000 in
attribute [local go_sem ↓] Go.wp_at_zero Go.wp_at_succ in
theorem look_any (X d S I p : Nat) (hv : Value) (H : List Ser) (ts : List Int) (L : List Int) (iv : Value) (w : World) (hx : w.heap[X]? = some (.cells (dbC d S I p (.slice none 0 0) 0 hv) 95 (0, 0))) (hs : SerV w hv H) (hH : HOk ts H) (ht12 : ts.length ≤ 12) (hT : ∀ t ∈ ts, 0 ≤ t ∧ t ≤ 3072)
    (hi : P6.Ints w iv L) (hr : L.Pairwise (· < ·)) (hL : ∀ m ∈ L, 0 ≤ m ∧ m < 5) (hLl : L.length ≤ 5) :
    Calls Tryz.prog 22 #[.pointer (some ⟨X, 0, none⟩), iv, rgAll, .bool true] w (LookA L H w) := by
  have HXc := Lib.hid hx
  obtain ⟨-, -, -, c3, -, -, -, c10, -⟩ := dbC_cells hx
  have hXl := lt_of_heap hx
  have HS := Lib.hid hs
  have HH := Lib.hid hH
  have HT := Lib.hid hT
  have HI := Lib.hid hi
  have HR := Lib.hid hr
  obtain ⟨ha, hc, rfl, hc1, hc2⟩ := hs.shape
  obtain ⟨ia, ic, rfl, -⟩ := hi
  obtain ⟨n, hn⟩ : ∃ n, n = H.length := ⟨_, rfl⟩
  rw [← hn] at hc1 c10 HS HXc
  have hn5 : n ≤ 5 := by rw [hn]; exact hH.len
  have HN := Lib.hid hn
  have HB0 := Lib.hid (show Below w.heap.size w (w.alloc (.cells #[.int .i64 0, .int .i64 1099511627776] 46)) from (Below.refl _ _).alloc (Nat.le_refl _) _)
  have HR0 := Lib.hid (heap_alloc_new w (.cells #[.int .i64 0, .int .i64 1099511627776] 46))
  clear hx hs hH hT hr hn
  generalize hLn : L.length = ln at *
  cases hd2 : decide ((ln : Int) ≤ 2)
  all_goals
    (go_enter Tryz.func22, Tryz.ntmps22
     go_wp2_with fail
     generalize w.alloc (.cells #[.int .i64 0, .int .i64 1099511627776] 46) = W at *
     have x3 := (HB0.out.cell (p := ⟨X, 3, none⟩) hXl).trans c3
     have x10 := (HB0.out.cell (p := ⟨X, 10, none⟩) hXl).trans c10
     have HSW := Lib.hid (HS.out.below HB0.out)
     have HIW := Lib.hid (HI.out.below HB0.out)
     clear c3 c10
     go_wp2_with fail
     refine wp_loop_rounds 1 ?_
     rw [rounds_succ]
     go_wp2_with fail
     clear x3 x10
     go_loopw [14, 67] (fun rv kv wq => ∃ k : Nat, kv = .int .i64 k ∧ k ≤ n ∧ OwnR 119 3 encRw wq W.heap.size rv (rowsP L (H.take k)) ∧ Below W.heap.size W wq) (fun _ kv _ => n - (intOf kv).toNat)
     case atStart => exact ⟨0, rfl, Nat.zero_le _, OwnR.nil _ _, Below.refl _ _⟩
     case round =>
       rename_i rv _
       obtain ⟨k, rfl, hk, ho, hb⟩ := hrel
       obtain ⟨ra, rn, rc, rfl⟩ := ho.isSl
       have HO := Lib.hid ho
       have HB := Lib.hid hb
       clear ho hb
       by_cases hlt : k < n
       · have hki : (k : Int) < (n : Int) := by omega
         obtain ⟨b, off, vs, rfl, hbl, e0, e1, hsm⟩ := (HSW.out.below HB.out).at_ (i := k) (by rw [← HN.out]; exact hlt)
         have HTk := Lib.hid (rowsP_take L H (k := k) (by rw [← HN.out]; exact hlt))
         have hmem : H.getD k (0, []) ∈ H := getD_mem' _ (by rw [← HN.out]; exact hlt)
         have HEa := Lib.hid (HH.out.each hmem)
         have HOne := Lib.hid (HH.out.ok.one _ hmem)
         have HIn0 := Lib.hid (fun x hx => HT.out _ (HH.out.tm _ hmem x hx))
         generalize H.getD k (0, []) = s at *
         obtain ⟨id, l⟩ := s
         simp only at e0 e1 hsm HEa HOne HIn0
         obtain ⟨va, vc, rfl, -⟩ := hsm.samples
         generalize hll : l.length = m at *
         have HSm := Lib.hid hsm
         have hm12 : m ≤ 12 := by have := HEa.out; omega
         have HHs := Lib.hid (P6.has_any (.slice ia ln ic) L id)
         clear hsm hmem
         go_wp2_with fail
         have HSB := Lib.hid (heap_alloc_new wr (.cells #[.int .i64 id, .slice va m vc] 49))
         have HBA := Lib.hid (show Below wr.heap.size wr (wr.alloc (.cells #[.int .i64 id, .slice va m vc] 49)) from (Below.refl _ _).alloc (Nat.le_refl _) _)
         generalize wr.alloc (.cells #[.int .i64 id, .slice va m vc] 49) = W1 at *
         have HB1 := Lib.hid (HB.out.trans (HBA.out.mono HB.out.size))
         have HO1 := Lib.hid (HO.out.below HBA.out)
         have HSm1 := Lib.hid (HSm.out.below HBA.out)
         have q0 : W1.cell? ⟨wr.heap.size, 0, none⟩ = some (.int .i64 id) := by rw [cell_of_row W1 _ _ _ _ _ HSB.out]; rfl
         clear e0 e1 hbl
         refine (HHs.out W1 (HIW.out.below HB1.out) HR.out (by omega)).mono ?_
         rintro e w9 ⟨rfl, rfl⟩
         by_cases hh : P6.hasB L id = true
         · rw [hh]
           rw [hh, if_pos rfl] at HTk
           have HIn := Lib.hid (fun (W' : World) (hb : Below W1.heap.size W1 W') => QIn.inAll_any (.slice va m vc) l 0 1099511627776 W' (HSm1.out.below hb).samples (by omega) (fun x hx => by have := HIn0.out x hx; simp only [QIn.inB, Bool.and_eq_true, decide_eq_true_eq]; omega))
           have HRo := Lib.hid (fun (W' : World) (ua : Option Addr) (un uc : Nat) (hu : RowG 2 encS W' (.slice ua un uc) l) => rowsG_any (.slice (some ⟨W'.heap.size, 0, none⟩) 1 1) [(id, l)] (W'.alloc (.cells #[.int .i64 id, .slice ua un uc] 49)) (oneSerV hu) (by simp) (by simp [tot]; omega))
           have HQ := Lib.hid (fun (W' : World) (hb : Below W1.heap.size W1 W') => show W'.cell? ⟨wr.heap.size, 0, none⟩ = some (.int .i64 id) ∧ W'.cell? ⟨wr.heap.size, 1, none⟩ = some (.slice va m vc) ∧ W'.cell? ⟨w.heap.size, 0, none⟩ = some (.int .i64 0) ∧ W'.cell? ⟨w.heap.size, 1, none⟩ = some (.int .i64 1099511627776) from by
             have h1 := (hb.block _ (lt_of_heap HSB.out)).trans HSB.out
             have h2 := (hb.block w.heap.size (by have := HB1.out.size; have := lt_of_heap HR0.out; omega)).trans ((HB1.out.block w.heap.size (lt_of_heap HR0.out)).trans HR0.out)
             refine ⟨?_, ?_, ?_, ?_⟩ <;> (first | (rw [cell_of_row W' _ _ _ _ _ h1]; rfl) | (rw [cell_of_row W' _ _ _ _ _ h2]; rfl)))
           obtain ⟨q0, q1, q2, q3⟩ := HQ.out W1 (Below.refl _ _)
           go_upto_region 19 with (fail)
           go_region_law (first
             | (refine stepAppG tyRow _ (by rfl) (.tmp 75) (.tmp 84) (by rfl) W.heap.size (.slice ra rn rc) r4 (rowsP L (H.take k)) (rowsOf [(id, l)]) (by rfl) (by rfl) (HO1.out.below hb4') hr4 (by rw [rowsOf_one]; simpa [rowsS] using HOne.out) (by have := HH.out.sub ht12 L k; rw [rowsOf_one]; simp [rowsS]; omega) (by have := HB1.out.size; have := hb4'.size; omega) ?_; intro v5 w5 ho5 hb5)
             | (go_simp; go_wp2_with (first
                | (go_at_call 59; refine (HIn.out _ (by first | exact Below.refl _ _ | exact (Below.refl _ _).drew)).mono ?_; rintro e w3 ⟨u3, rfl, ho3, hb3⟩; obtain ⟨ua, un, uc, rfl⟩ := ho3.isSl; have hb3' : Below W1.heap.size W1 w3 := (by first | exact hb3 | exact (Below.refl _ _).drew.trans hb3); obtain ⟨p0, p1, p2, p3⟩ := HQ.out w3 hb3')
                | (go_at_call 58; refine (HRo.out _ _ _ _ ho3.rowG).mono ?_; rintro e w4 ⟨r4, rfl, hr4, -, hb4⟩; have hb4' : Below W1.heap.size W1 w4 := hb3'.trans ((QIn.below_al hb4).mono hb3'.size)))))
           all_goals
             (have HEnd := Lib.hid (show OwnR 119 3 encRw w5 W.heap.size v5 (rowsP L (H.take (k + 1))) ∧ Below W.heap.size W w5 from by
                rw [rowsOf_one] at ho5
                rw [HTk.out]
                exact ⟨ho5, (HB1.out.trans (hb4'.mono HB1.out.size)).trans hb5⟩)
              clear ho5 hb5 hr4 hb4 hb4' ho3 hb3 hb3' p0 p1 p2 p3 q0 q1 q2 q3 HQ HRo HIn
              go_wp2_with fail
              go_roundw
              case rel => exact ⟨k + 1, by go_num, by omega, HEnd.out.1, HEnd.out.2⟩
              case measure => simp [intOf]; omega)
         · have hh' : P6.hasB L id = false := by simpa using hh
           rw [hh']
           rw [if_neg hh] at HTk
           have HEnd := Lib.hid (show OwnR 119 3 encRw W1 W.heap.size (.slice ra rn rc) (rowsP L (H.take (k + 1))) from by rw [HTk.out]; exact HO1.out)
           clear q0
           go_wp2_with fail
           go_roundw
           case rel => exact ⟨k + 1, by go_num, by omega, HEnd.out, HB1.out⟩
           case measure => simp [intOf]; omega
       · have hke : k = n := by omega
         subst hke
         have HO2 := Lib.hid (show OwnR 119 3 encRw wr W.heap.size (.slice ra rn rc) (rowsP L H) from by have := HO.out; rw [show H.take k = H from by rw [HN.out, List.take_length]] at this; exact this)
         have HP1 := Lib.hid (putG_any (.slice none 0 0) (.slice none 0 0) [] [] wr ⟨[], rfl, RowG.nil _, by simp⟩ SOk.nil (RowG.nil _) ⟨fun id => List.Pairwise.nil, fun r hr => by cases hr⟩ (by simp) (by simp) (by simp [idsOf]) (fun id => by simp [smpOf]) (by simp [tot]))
         rw [show putL [] [] = ([] : List Ser) from by rw [putL_nil]; rfl] at HP1
         go_wp2_with fail
         refine HP1.out.mono ?_
         rintro e w3 ⟨r3, rfl, hr3, hb3⟩
         have HP2 := Lib.hid (putG_any r3 (.slice ra rn rc) [] (rowsP L H) w3 hr3.serV SOk.nil (HO2.out.rowG.below hb3) (rowsP_prise HH.out.ok) (by have := HH.out.sub ht12 L H.length; rw [List.take_length] at this; omega) (by simp)
           (by have := nodup_int (idsOf_rise (rowsP L H)) (L := [0, 1, 2, 3, 4]) (fun x hx => by
                 obtain ⟨r, hr, rfl⟩ := idsOf_mem.1 hx
                 obtain ⟨s, hs, h1, h2, _⟩ := rowsP_mem hr
                 have h3 := hL s.1 (by simpa [P6.hasB] using h1)
                 rw [h2]
                 simp only [List.mem_cons, List.not_mem_nil, or_false]
                 omega)
               simp at this; omega)
           (fun id => rowsP_smp HH.out ht12 id) (by simp [tot]))
         have HB3 := Lib.hid (HB0.out.trans ((HB.out.trans (hb3.mono HB.out.size)).mono HB0.out.size))
         obtain ⟨r3a, r3c, rfl, -⟩ := hr3.serV.shape
         clear hr3 hb3 HP1
         go_wp2_with fail
         refine HP2.out.mono ?_
         rintro e w4 ⟨r4, rfl, hr4, hb4⟩
         have HEnd := Lib.hid (show LookA L H w (.returned r4) w4 from ⟨r4, rfl, hr4.serV, HB3.out.trans (hb4.mono HB3.out.size)⟩)
         clear hr4 hb4
         go_wp2_with fail
         go_ret
         exact HEnd.out)

end Go.Proofs.YtheenlomlmbjaaaGreatDoor

namespace Go.Proofs.YtheenlomlmbjaaaGreatDoor
open Go.RowKit Go.Maps

theorem selL_len (k : Int) (x : Bytes) : (selL 5 k x).length ≤ 5 := by
  have := nodup_int (selL_rise 5 k x) (L := [0, 1, 2, 3, 4]) (fun m hm => by
    have := selL_in m hm
    simp only [List.mem_cons, List.not_mem_nil, or_false]
    omega)
  simpa using this
def QryA (w : World) (k : Int) (x : Bytes) (e : Ending) (w' : World) : Prop := ∃ v S, e = .returned (.tuple #[v, .int .i64 (selE k x)]) ∧ SerV w' v S ∧ S.map (·.1) = selL 5 k x ∧ Below w.heap.size w w'
set_option maxRecDepth 100000 in
set_option maxHeartbeats 4000000 in
theorem query_any (FI : Bl) (X d S I p : Nat) (hv : Value) (H : List Ser) (ts : List Int) (k : Int) (x : Bytes) (b off cap : Nat) (w : World) (hx : w.heap[X]? = some (.cells (dbC d S I p (.slice none 0 0) 0 hv) 95 (0, 0))) (hi : IdxL FI w I 5) (hl : x.length ≤ 1000000) (hk : k = 0 ∨ k = 1 ∨ k = 2) (hcap : 1 ≤ cap) (hcm : cap ≤ 9223372036854775807) (hm : MatV w b off k x)
    (hs : SerV w hv H) (hH : HOk ts H) (ht0 : ts ≠ []) (ht12 : ts.length ≤ 12) (hT : ∀ t ∈ ts, 0 ≤ t ∧ t ≤ 3072) :
    Calls Tryz.prog 11 #[.pointer (some ⟨X, 0, none⟩), .slice (some ⟨b, off, none⟩) 1 cap, rgAll] w (QryA w k x) := by
  have HBl := Lib.hid (show Below w.heap.size w (w.alloc (.cells #[.int .i64 0, .int .i64 1099511627776] 46)) from (Below.refl _ _).alloc (Nat.le_refl _) _)
  have HR := Lib.hid (heap_alloc_new w (.cells #[.int .i64 0, .int .i64 1099511627776] 46))
  have hXl := lt_of_heap hx
  have HM := Lib.hid (fun (W : World) (hb : Below w.heap.size w W) => meant_any FI X d S I p hv k x b off cap W ((hb.block X hXl).trans hx) (hi.below hb) hl hk hcap hcm (hm.below hb))
  have HL := Lib.hid (fun (W : World) (iv : Value) (hb : Below w.heap.size w W) (h : P6.Ints W iv (selL 5 k x)) => look_any X d S I p hv H ts (selL 5 k x) iv W ((hb.block X hXl).trans hx) (hs.below hb) hH ht12 hT h (selL_rise 5 k x) selL_in (selL_len k x))
  have HPt := Lib.hid (rowsP_put (L := selL 5 k x) hH ht0 selL_in (selL_rise 5 k x))
  clear hx hi hm hs hH hT
  go_enter Tryz.func11, Tryz.ntmps11
  go_wp2_with fail
  generalize w.alloc (.cells #[.int .i64 0, .int .i64 1099511627776] 46) = W at *
  have r0 : W.cell? ⟨w.heap.size, 0, none⟩ = some (.int .i64 0) := by rw [cell_of_row W _ _ _ _ _ HR.out]; rfl
  have r1 : W.cell? ⟨w.heap.size, 1, none⟩ = some (.int .i64 1099511627776) := by rw [cell_of_row W _ _ _ _ _ HR.out]; rfl
  go_wp2_with fail
  refine (HM.out W HBl.out).mono ?_
  rintro e w1 ⟨v, rfl, hv1, hb1⟩
  have HV := Lib.hid hv1
  have HB1 := Lib.hid (HBl.out.trans (hb1.mono HBl.out.size))
  have hR1 := (hb1.block _ (lt_of_heap HR.out)).trans HR.out
  have r0 : w1.cell? ⟨w.heap.size, 0, none⟩ = some (.int .i64 0) := by rw [cell_of_row w1 _ _ _ _ _ hR1]; rfl
  have r1 : w1.cell? ⟨w.heap.size, 1, none⟩ = some (.int .i64 1099511627776) := by rw [cell_of_row w1 _ _ _ _ _ hR1]; rfl
  obtain ⟨va, vc, rfl, -⟩ := hv1
  have HL1 := Lib.hid (HL.out w1 _ HB1.out HV.out)
  have HSE := Lib.hid (selE_or 5 k x)
  obtain ⟨L, hL⟩ : ∃ L, L = selL 5 k x := ⟨_, rfl⟩
  have HLe := Lib.hid hL
  rw [← hL] at HV HSE HL1 HPt ⊢
  generalize hE : selE k x = E at *
  have HE := Lib.hid hE
  generalize L.length = n at *
  clear hb1 hR1 HBl HM HL hE hL
  rcases HSE.out with rfl | ⟨rfl, hnil⟩
  · go_wp2_with fail
    refine HL1.out.mono ?_
    rintro e w2 ⟨v2, rfl, hs2, hb2⟩
    have HEnd := Lib.hid (show QryA w k x (.returned (.tuple #[v2, .int .i64 0])) w2 from ⟨v2, _, by rw [HE.out], hs2, by rw [← HLe.out]; exact HPt.out, HB1.out.trans (hb2.mono HB1.out.size)⟩)
    clear hs2 hb2
    go_wp2_with fail
    go_ret2
    exact HEnd.out
  · have HEnd := Lib.hid (show QryA w k x (.returned (.tuple #[.slice none 0 0, .int .i64 50])) w1 from ⟨_, [], by rw [HE.out], ⟨[], rfl, RowG.nil _, by simp⟩, by rw [← HLe.out, hnil]; rfl, HB1.out⟩)
    clear hnil
    go_wp2_with fail
    go_ret2
    exact HEnd.out

end Go.Proofs.YtheenlomlmbjaaaGreatDoor
