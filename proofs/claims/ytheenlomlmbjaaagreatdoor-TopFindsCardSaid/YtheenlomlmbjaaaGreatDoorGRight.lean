/-
  manifest.right of a state of this law.
-/
import Derived.Test.YtheenlomlmbjaaaGreatDoorGApply2
import Derived.Test.YtheenlomlmbjaaaGreatDoorGAddZ
set_option linter.unusedSimpArgs false
set_option linter.unusedVariables false
namespace Go.Proofs.YtheenlomlmbjaaaGreatDoor
open Go.RowKit Go.Maps

def ptL (ds : List Int) : List Pt := (List.range ds.length).map fun i => (ds.getD i 0, 0, fileN i)
theorem ptL_len (ds : List Int) : (ptL ds).length = ds.length := by simp [ptL]
theorem ptL_get {ds : List Int} {i : Nat} (h : i < ds.length) : (ptL ds).getD i (0, 0, []) = (ds.getD i 0, 0, fileN i) := by
  unfold ptL
  rw [getD_map (fun i => (ds.getD i 0, 0, fileN i)) (List.range ds.length) i 0 (0, 0, []) (by simpa using h)]
  have : (List.range ds.length).getD i 0 = i := by rw [List.getD_eq_getElem?_getD, List.getElem?_range h]; rfl
  rw [this]
theorem ptL_mem {ds : List Int} {x : Pt} (h : x ∈ ptL ds) : x.1 ∈ ds ∧ x.2.1 = 0 := by
  obtain ⟨i, hi, rfl⟩ := List.mem_map.1 h
  have hi' : i < ds.length := by simpa using hi
  exact ⟨getD_mem' 0 hi', rfl⟩
theorem ptL_snoc (ds : List Int) (d : Int) : ptL (ds ++ [d]) = ptL ds ++ [(d, 0, fileN ds.length)] := by
  unfold ptL
  rw [List.length_append, List.length_singleton, List.range_succ, List.map_append]
  congr 1
  · refine List.map_congr_left fun i hi => ?_
    have hi' : i < ds.length := by simpa using hi
    have : (ds ++ [d]).getD i 0 = ds.getD i 0 := by
      rw [List.getD_eq_getElem?_getD, List.getElem?_append_left hi', ← List.getD_eq_getElem?_getD]
    rw [this]
  · simp [List.getD]
theorem ptL_rise {ds : List Int} (h : ds.Pairwise (· < ·)) : DRise (ptL ds) := by
  unfold DRise ptL
  rw [List.pairwise_map, List.pairwise_iff_getElem]
  intro i j hi hj hij
  have hj' : j < ds.length := by simpa using hj
  have hi' : i < ds.length := by omega
  simp only [List.getElem_range]
  rw [List.getD_eq_getElem?_getD, List.getD_eq_getElem?_getD, List.getElem?_eq_getElem hi', List.getElem?_eq_getElem hj']
  exact List.pairwise_iff_getElem.1 h i j hi' hj' hij

theorem fileN_inj : ∀ i, i < 12 → ∀ j, j < 12 → fileN i = fileN j → i = j := by decide +kernel
def MetP (w : World) (m k : Nat) : Prop := ∃ D f, OMap Tryz.prog 9 w m k D ∧ StrD f k D ∧ ∀ j, j < 12 → f (fileN j) = if j < k then some (.bool true) else none
theorem zeroB (w : World) : (zeroValue 4).run Tryz.prog w = .ok (.bool false) w := by kernel_rfl
theorem MetP.stay {w w' : World} {m k : Nat} (h : MetP w m k) (hb : w'.heap[m]? = w.heap[m]?) : MetP w' m k := by
  obtain ⟨D, f, h1, h2⟩ := h
  exact ⟨D, f, OMap.stay h1 hb, h2⟩
theorem MetP.mapB {w : World} {m k : Nat} (h : MetP w m k) : MapB w m := by obtain ⟨D, f, h1, _⟩ := h; exact OMap.mapB h1
theorem MetP.below {w w' : World} {m k : Nat} (h : MetP w m k) (hb : Below w.heap.size w w') : MetP w' m k := h.stay (hb.block m h.mapB.lt)
theorem MetP.no {w : World} {m k : Nat} (h : MetP w m k) (hk : k < 12) : (Instr.lookup 256 (.map (some m)) (.string (bs (fileN k))) false).run Tryz.prog w = .ok (.bool false) w := by
  obtain ⟨D, f, h1, h2, h3⟩ := h
  exact h2.lookZ h1 Tryz.underlying256 (zeroB w) (by have := (names_ok _ (fileN_in hk)).2; omega) (by rw [h3 k hk, if_neg (by omega)])
theorem MetP.add {w : World} {m k : Nat} (h : MetP w m k) (hk : k < 12) :
    (Instr.mapUpdate 256 (.map (some m)) (.string (bs (fileN k))) (.bool true)).run Tryz.prog w = .ok () (mapPut Tryz.prog 256 m (.string (bs (fileN k))) (.bool true) w) ∧
    MetP (mapPut Tryz.prog 256 m (.string (bs (fileN k))) (.bool true) w) m (k + 1) ∧ w.grownBy (mapPut Tryz.prog 256 m (.string (bs (fileN k))) (.bool true) w) (some m) := by
  obtain ⟨D, f, h1, h2, h3⟩ := h
  have hl : (fileN k).length ≤ 100000 := by have := (names_ok _ (fileN_in hk)).2; omega
  obtain ⟨hrun, -, hg⟩ := h1.keysOk.put keyedStr Tryz.underlying256 (keyS hl) (.bool true)
  have hp := h1.put keyedStr Tryz.underlying256 (by simp only [maxLen]; omega) (keyS hl) (.bool true)
  refine ⟨hrun, ⟨_, _, hp, h2.put _ _, fun j hj => ?_⟩, hg⟩
  unfold setO
  by_cases e : j = k
  · subst e; rw [if_pos rfl, if_pos (by omega)]
  · rw [if_neg (fun e2 => e (fileN_inj j hj k hk e2)), h3 j hj]
    by_cases e3 : j < k
    · rw [if_pos e3, if_pos (by omega)]
    · rw [if_neg e3, if_neg (by omega)]

def lastD (ds : List Int) (k : Nat) : Int := if k = 0 then -1 else ds.getD (k - 1) 0
theorem lastD_lt {ds : List Int} (h : ds.Pairwise (· < ·)) (h0 : ∀ d ∈ ds, 0 ≤ d) {k : Nat} (hk : k < ds.length) : lastD ds k < ds.getD k 0 := by
  unfold lastD
  split
  · have := h0 _ (getD_mem' 0 hk); omega
  · rw [List.getD_eq_getElem?_getD, List.getD_eq_getElem?_getD, List.getElem?_eq_getElem hk, List.getElem?_eq_getElem (show k - 1 < ds.length by omega)]
    exact List.pairwise_iff_getElem.1 h (k - 1) k (by omega) hk (by omega)
theorem lastD_succ (ds : List Int) (k : Nat) : lastD ds (k + 1) = ds.getD k 0 := by unfold lastD; rw [if_neg (by omega)]; rfl

set_option maxRecDepth 100000 in
set_option maxHeartbeats 4000000 in
attribute [local go_sem ↓] Go.wp_at_zero Go.wp_at_succ in
theorem right_any' (u : Value) (ds : List Int) (n : Nat) (w : World) (hu : RowG 3 encPt w u (ptL ds)) (hds : ds.Pairwise (· < ·)) (hd0 : ∀ d ∈ ds, 0 ≤ d ∧ d < 100000) (hn : n = ds.length) (h12 : n ≤ 12) :
    Calls Tryz.prog 71 #[manV u n 0] w fun e w' => e = .returned (.bool true) ∧ Below w.heap.size w w' := by
  have HU := Lib.hid hu
  have HD := Lib.hid hds
  have HD0 := Lib.hid hd0
  have HN := Lib.hid hn
  obtain ⟨a, ca, rfl, a1, a2, -⟩ := hu
  rw [ptL_len, ← hn] at a1 HU ⊢
  have hmm := @run_makeMap Tryz.prog
  obtain ⟨h1, h2⟩ := heap2 w (.cells (manC (.slice a n ca) n 0) 91) (.map #[] 0)
  have HM := Lib.hid h1
  have HMet := Lib.hid (show MetP ((w.alloc (.cells (manC (.slice a n ca) n 0) 91)).alloc (.map #[] 0)) (w.heap.size + 1) 0 from
    ⟨.map [], _, OMap.stay (w := (w.alloc (.cells (manC (.slice a n ca) n 0) 91)).alloc (.map #[] 0)) (by have := World.ownsMap_made (w.alloc (.cells (manC (.slice a n ca) n 0) 91)) Tryz.prog 9 rawE; rwa [World.size_alloc] at this) rfl, StrD.start, fun j _ => by simp⟩)
  have HB := Lib.hid (show Below w.heap.size w ((w.alloc (.cells (manC (.slice a n ca) n 0) 91)).alloc (.map #[] 0)) from ((Below.refl _ _).alloc (Nat.le_refl _) _).alloc (by simp) _)
  have HS := Lib.hid (show ((w.alloc (.cells (manC (.slice a n ca) n 0) 91)).alloc (.map #[] 0)).heap.size = w.heap.size + 2 by simp)
  unfold manC at HM HMet HB HS
  clear hds hd0 hn h1 h2
  unfold manV
  go_enter Tryz.func71, Tryz.ntmps71
  go_wp2_with fail
  generalize (w.alloc (.cells #[.slice a n ca, .int .i64 (n : Int), .int .i64 0, .bool false, .int .i64 0, .int .i64 0, .int .i64 0] 91)).alloc (.map #[] 0) = W at *
  go_loopw [4, 15] (fun lv iv wr => ∃ k : Nat, iv = .int .i64 k ∧ k ≤ n ∧ lv = .int .i64 (lastD ds k) ∧ MetP wr (w.heap.size + 1) k ∧ Below w.heap.size w wr ∧ wr.heap[w.heap.size]? = some (.cells #[.slice a n ca, .int .i64 (n : Int), .int .i64 0, .bool false, .int .i64 0, .int .i64 0, .int .i64 0] 91 (0, 0))) (fun _ iv _ => n - (intOf iv).toNat)
  case atStart => exact ⟨0, rfl, Nat.zero_le _, rfl, HMet.out, HB.out, HM.out⟩
  case round =>
    clear HMet HB HM HS hmm
    obtain ⟨k, rfl, hk, rfl, hmet, hb, hm⟩ := hrel
    have HMet := Lib.hid hmet
    have HB := Lib.hid hb
    have HM := Lib.hid hm
    clear hmet
    by_cases hlt : k < n
    · have hki : (k : Int) < (n : Int) := by omega
      have hk12 : k < 12 := by omega
      have hkd : k < ds.length := by rw [← HN.out]; exact hlt
      obtain ⟨b, off, rfl, hbl, hc⟩ := (HU.out.below hb).at_ (fun _ => rfl) (0, 0, []) (i := k) (by rw [ptL_len]; exact hkd)
      have c0 := hc 0 (by omega)
      have c1 := hc 1 (by omega)
      have c2 := hc 2 (by omega)
      rw [ptL_get hkd] at c0 c1 c2
      simp only [encPt, Nat.add_zero, List.getElem?_cons_zero, List.getElem?_cons_succ] at c0 c1 c2
      have hlast := lastD_lt HD.out (fun d hd => (HD0.out d hd).1) hkd
      have hdd := HD0.out _ (getD_mem' 0 hkd)
      have HLs := Lib.hid (lastD_succ ds k)
      generalize lastD ds k = lk at *
      obtain ⟨d, hd⟩ : ∃ d, d = ds.getD k 0 := ⟨_, rfl⟩
      rw [← hd] at c0 hlast hdd HLs
      clear hd
      have HAl := Lib.hid (show Below wr.heap.size wr (wr.alloc (.cells #[.int .i64 d, .int .i64 0, .string (bs (fileN k))] 139)) from (Below.refl _ _).alloc (Nat.le_refl _) _)
      have HX := Lib.hid (heap_alloc_new wr (.cells #[.int .i64 d, .int .i64 0, .string (bs (fileN k))] 139))
      have HNu := Lib.hid (fun W => number_any' k W hk12)
      have d1 : decide (d ≤ lk) = false := by rw [decide_eq_false_iff_not]; omega
      have d2 : decide (17179869184 ≤ d) = false := by rw [decide_eq_false_iff_not]; omega
      have d3 : decide ((n : Int) ≤ (k : Int)) = false := by rw [decide_eq_false_iff_not]; omega
      have HBx := Lib.hid (HB.out.trans (HAl.out.mono HB.out.size))
      have HMx := Lib.hid ((HAl.out.block _ (lt_of_heap HM.out)).trans HM.out)
      have HMe := Lib.hid (HMet.out.below HAl.out)
      have HAd := Lib.hid (fun (W : World) (h : MetP W (w.heap.size + 1) k) => And.intro (h.no hk12) (h.add hk12))
      generalize hfk : fileN k = fk at *
      clear hc hb hm
      go_wp2_with fail
      refine (HNu.out _).mono ?_
      rintro e w2 ⟨rfl, hb2⟩
      have hb2' := (HAl.out.trans (hb2.mono HAl.out.size))
      have HB2 := Lib.hid (HBx.out.trans (hb2.mono HBx.out.size))
      have hm2 := (hb2.block _ (lt_of_heap HMx.out)).trans HMx.out
      have hx2 := (hb2.block _ (lt_of_heap HX.out)).trans HX.out
      have HMe2 := Lib.hid (HMe.out.below hb2)
      have HM2 := Lib.hid hm2
      have HX2 := Lib.hid hx2
      have p0 : w2.cell? ⟨wr.heap.size, 0, none⟩ = some (.int .i64 d) := by rw [cell_of_row w2 _ _ _ _ _ hx2]; rfl
      have p1 : w2.cell? ⟨wr.heap.size, 1, none⟩ = some (.int .i64 0) := by rw [cell_of_row w2 _ _ _ _ _ hx2]; rfl
      have p2 : w2.cell? ⟨wr.heap.size, 2, none⟩ = some (.string (bs fk)) := by rw [cell_of_row w2 _ _ _ _ _ hx2]; rfl
      have m1 : w2.cell? ⟨w.heap.size, 1, none⟩ = some (.int .i64 (n : Int)) := by rw [cell_of_row w2 _ _ _ _ _ hm2]; rfl
      obtain ⟨hno, hrun, hmet9, hg9⟩ := HAd.out w2 HMe2.out
      have HMe9 := Lib.hid hmet9
      have HG9 := Lib.hid hg9
      clear hmet9 hg9 hb2 hb2' hm2 hx2
      go_wp2_with fail
      refine (within_yes 0 1 w2 (by omega) (by omega)).mono ?_
      rintro e w9 ⟨rfl, rfl⟩
      go_wp2_with fail
      clear hrun hno HMe9 HG9
      obtain ⟨-, hrun, hmet9, hg9⟩ := HAd.out w2.drew (HMe2.out.below (Below.refl _ _).drew)
      have HMe9 := Lib.hid hmet9
      have HB9 := Lib.hid (HB2.out.drew.grown hg9 HB2.out.size (fun b e => by have e2 := Option.some.inj e; omega))
      have HM9 := Lib.hid ((hg9.block w.heap.size (lt_of_heap HM2.out) (fun e => by have e2 := Option.some.inj e; omega)).trans HM2.out)
      clear hmet9 hg9
      go_still_tail 6, (by kernel_rfl)
      change wpList _ _ _ _ _ w2.drew
      go_wp2_with fail
      go_roundw
      case rel => exact ⟨k + 1, by go_num, by omega, by rw [HLs.out], HMe9.out, HB9.out, HM9.out⟩
      case measure => simp [intOf]; omega
    · have hke : k = n := by omega
      subst hke
      have m0 : wr.cell? ⟨w.heap.size, 0, none⟩ = some (.slice a k ca) := by rw [cell_of_row wr _ _ _ _ _ HM.out]; rfl
      have m1 : wr.cell? ⟨w.heap.size, 1, none⟩ = some (.int .i64 (k : Int)) := by rw [cell_of_row wr _ _ _ _ _ HM.out]; rfl
      have m2 : wr.cell? ⟨w.heap.size, 2, none⟩ = some (.int .i64 0) := by rw [cell_of_row wr _ _ _ _ _ HM.out]; rfl
      have m3 : wr.cell? ⟨w.heap.size, 3, none⟩ = some (.bool false) := by rw [cell_of_row wr _ _ _ _ _ HM.out]; rfl
      have m4 : wr.cell? ⟨w.heap.size, 4, none⟩ = some (.int .i64 0) := by rw [cell_of_row wr _ _ _ _ _ HM.out]; rfl
      have m5 : wr.cell? ⟨w.heap.size, 5, none⟩ = some (.int .i64 0) := by rw [cell_of_row wr _ _ _ _ _ HM.out]; rfl
      have m6 : wr.cell? ⟨w.heap.size, 6, none⟩ = some (.int .i64 0) := by rw [cell_of_row wr _ _ _ _ _ HM.out]; rfl
      have HF := Lib.hid (find_or (.slice a k ca) (k : Int) 0 (ptL ds) 0 wr (HU.out.below HB.out) (ptL_rise HD.out) (by rw [ptL_len, ← HN.out]; omega))
      unfold manV at HF
      clear hb hm HMet
      go_wp2_with fail
      refine HF.out.mono ?_
      rintro e w3 ⟨x0, x1, x2, bb, rfl, hb3⟩
      have HB3 := Lib.hid (HB.out.trans (hb3.mono HB.out.size))
      have hm3 := (hb3.block _ (lt_of_heap HM.out)).trans HM.out
      have hl3 : w.heap.size < w3.heap.size := lt_of_heap hm3
      clear m0 m1 m2 m3 m4 m5 m6
      have m1 : w3.cell? ⟨w.heap.size, 1, none⟩ = some (.int .i64 (k : Int)) := by rw [cell_of_row w3 _ _ _ _ _ hm3]; rfl
      have m2 : w3.cell? ⟨w.heap.size, 2, none⟩ = some (.int .i64 0) := by rw [cell_of_row w3 _ _ _ _ _ hm3]; rfl
      have m3 : w3.cell? ⟨w.heap.size, 3, none⟩ = some (.bool false) := by rw [cell_of_row w3 _ _ _ _ _ hm3]; rfl
      have m4 : w3.cell? ⟨w.heap.size, 4, none⟩ = some (.int .i64 0) := by rw [cell_of_row w3 _ _ _ _ _ hm3]; rfl
      have m5 : w3.cell? ⟨w.heap.size, 5, none⟩ = some (.int .i64 0) := by rw [cell_of_row w3 _ _ _ _ _ hm3]; rfl
      have m6 : w3.cell? ⟨w.heap.size, 6, none⟩ = some (.int .i64 0) := by rw [cell_of_row w3 _ _ _ _ _ hm3]; rfl
      have HBe := Lib.hid (HB3.out.alloc HB3.out.size (.cells #[.int .i64 x0, .int .i64 x1, .string (bs x2)] 139))
      clear hb3 hm3 HF
      go_wp2_with fail
      refine (within_yes (k : Int) 1099511627776 _ (by omega) (by omega)).mono ?_
      rintro e w9 ⟨rfl, rfl⟩
      go_wp2_with fail
      refine (within_yes 0 1099511627776 _ (by omega) (by omega)).mono ?_
      rintro e w9 ⟨rfl, rfl⟩
      go_wp2_with fail
      go_ret
      exact ⟨rfl, HBe.out⟩

end Go.Proofs.YtheenlomlmbjaaaGreatDoor
