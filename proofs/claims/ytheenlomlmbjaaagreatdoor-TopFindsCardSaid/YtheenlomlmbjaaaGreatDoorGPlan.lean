/-
  files.planned: a store of little holds it.
-/
import Derived.Test.YtheenlomlmbjaaaGreatDoorGPlanI
import Derived.Test.YtheenlomlmbjaaaGreatDoorGFrame
set_option linter.unusedSimpArgs false
set_option linter.unusedVariables false
namespace Go.Proofs.YtheenlomlmbjaaaGreatDoor
open Go.RowKit Go.Maps Go.Shelf

theorem lenS_run {w : World} {b n : Nat} {D : DataW Value} (h : OMap Tryz.prog 9 w b n D) : ∃ c : Nat, c ≤ n ∧ ∀ w', w'.heap[b]? = w.heap[b]? → (Builtin.len_ #[150] 3 #[.map (some b)]).run Tryz.prog w' = .ok (.int .i64 (c : Int)) w' := by
  obtain ⟨es, clock, hb, _, hs, _⟩ := h
  exact ⟨es.size, hs, fun w' hw => run_len_map w' _ _ b es clock (by kernel_rfl) (hw.trans hb)⟩

theorem zeroStr (w : World) : (zeroValue 9).run Tryz.prog w = .ok (.string (bs [])) w := by kernel_rfl
theorem zeroKept (w : World) : (zeroValue 157).run Tryz.prog w = .ok (.agg #[.string (bs []), .slice none 0 0]) w := by kernel_rfl
theorem look_file {w : World} {b N : Nat} {D : DataW Value} {f : Fs} {nm d : Bytes} (h : OMap Tryz.prog 9 w b N D) (hf : FsD f N D) (hl : nm.length ≤ 100000) (hd : f nm = some d) : (Instr.lookup 150 (.map (some b)) (.string (bs nm)) false).run Tryz.prog w = .ok (.string (bs d)) w :=
  look_raw h keyedStr Tryz.underlying150 (zeroStr w) (keyS hl) (by rw [hf.at_, hd]; rfl)
theorem look_last {w : World} {b : Nat} {nm : Bytes} (h : OMap Tryz.prog 9 w b 0 (.map [])) (hl : nm.length ≤ 100000) : (Instr.lookup 151 (.map (some b)) (.string (bs nm)) false).run Tryz.prog w = .ok (.agg #[.string (bs []), .slice none 0 0]) w :=
  look_raw h keyedStr Tryz.underlying151 (zeroKept w) (keyS hl) rfl
def lenF (g : Fs) (nm : Bytes) : Nat := match g nm with | some d => d.length | none => 0
def tkOf (g : Fs) (l : List Bytes) : Nat := sumN (l.map fun nm => nch (lenF g nm))

theorem tkOf_take (g : Fs) (l : List Bytes) (k : Nat) : tkOf g (l.take k) ≤ tkOf g l := by
  have e : tkOf g l = tkOf g (l.take k) + tkOf g (l.drop k) := by
    conv => lhs; rw [← List.take_append_drop k l]
    unfold tkOf
    rw [List.map_append, sumN_append]
  omega
theorem tkOf_succ (g : Fs) (l : List Bytes) {k : Nat} (h : k < l.length) : tkOf g (l.take (k + 1)) = tkOf g (l.take k) + nch (lenF g (l.getD k [])) := by
  rw [snoc_take l [] h]
  unfold tkOf
  rw [List.map_append, sumN_append]
  simp [sumN]
theorem tkOf_le {g : Fs} {l : List Bytes} {M : Nat} (hl : l.length ≤ M) (hM : M ≤ 15) (hp : l.Pairwise (· ≠ ·)) (hf : ∀ nm ∈ l, lenF g nm ≤ limF nm) : tkOf g l ≤ 409 := by
  have := sum_lim (f := lenF g) hf hp
  unfold tkOf
  split at this <;> omega

theorem keepCB {w8 w' w'' : World} {K i : Nat} {v : Value} (h : w'.cell? ⟨K, i, none⟩ = some v ∧ Below w8.heap.size w8 w') (hb : Below w'.heap.size w' w'') : w''.cell? ⟨K, i, none⟩ = some v ∧ Below w8.heap.size w8 w'' :=
  ⟨(hb.cell (p := ⟨K, i, none⟩) (World.block_lt_of_cell? w' _ h.1)).trans h.1, h.2.trans (hb.mono h.2.size)⟩

set_option maxRecDepth 100000 in
set_option maxHeartbeats 4000000 in
theorem planned_any (S mb N M : Nat) (f g : Fs) (Dn : DataW Value) (w : World) (h : StoreOk w S f N) (hm : OMap Tryz.prog 9 w mb M Dn) (hg : FsD g M Dn) (hM : M ≤ 15) (hnm : ∀ nm d, g nm = some d → nm.length ≤ 16 ∧ d.length ≤ limF nm) :
    Calls Tryz.prog 309 #[.pointer (some ⟨S, 0, none⟩), .map (some mb)] w fun e w' => ∃ c0 c1 c2 c3 c4 c5, e = .returned (.agg #[c0, c1, c2, c3, c4, c5, .bool true]) ∧ Below w.heap.size w w' := by
  have HST := Lib.hid h
  have HM := Lib.hid hm
  obtain ⟨d, m, m2, D, hSt, hDk, hMm, hFs, hM2⟩ := h
  have HSt := Lib.hid hSt
  have HDk := Lib.hid hDk
  have HM2 := Lib.hid hM2
  have hmm := @run_makeMap Tryz.prog
  clear hm hSt hDk hMm hFs hM2
  go_enter Tryz.func309, Tryz.ntmps309
  go_wp2_with fail
  obtain ⟨wa, hwa⟩ : ∃ wa, wa = w.alloc (.cells #[.slice none 0 0, .map none, .string (bs []), .slice none 0 0, .int .i64 0, .int .i64 0, .bool false] 415) := ⟨_, rfl⟩
  have HBa := Lib.hid (show Below w.heap.size w wa by rw [hwa]; exact (Below.refl _ _).alloc (Nat.le_refl _) _)
  have HRes := Lib.hid (show wa.heap[w.heap.size]? = some (.cells #[.slice none 0 0, .map none, .string (bs []), .slice none 0 0, .int .i64 0, .int .i64 0, .bool false] 415 (0, 0)) by rw [hwa]; exact heap_alloc_new ..)
  have HSta := Lib.hid (show StoreAt wa S d m m2 by rw [hwa]; exact heap_old HSt.out)
  have HM2a := Lib.hid (OMap.below HM2.out (by rw [hwa]; exact (Below.refl _ _).alloc (Nat.le_refl _) _) : OMap Tryz.prog 9 wa m2 0 (.map []))
  have HDka := Lib.hid (DiskOk.below HDk.out (by rw [hwa]; exact (Below.refl _ _).alloc (Nat.le_refl _) _) : DiskOk wa d)
  rw [← hwa]
  clear hwa
  refine (free_any S d m m2 wa HSta.out HM2a.out).mono ?_
  rintro e w1 ⟨b, B2, rfl, k1, k2, k3, hb1⟩
  have HFS := Lib.hid (freeSeen_of hb1 HSta.out HDka.out k1 k2 k3)
  have HB1 := Lib.hid (HBa.out.trans (hb1.mono HBa.out.size))
  have HRes1 := Lib.hid ((hb1.block w.heap.size (lt_of_heap HRes.out)).trans HRes.out)
  clear k1 k2 k3 hb1
  go_wp2_with fail
  refine (colFree_any wa.heap.size B2 w1 HFS.out).mono ?_
  rintro e w2 ⟨v, rfl, hv, hb2⟩
  have HV := Lib.hid hv
  have HB2 := Lib.hid (HB1.out.trans (hb2.mono HB1.out.size))
  have HRes2 := Lib.hid ((hb2.block w.heap.size (lt_of_heap HRes1.out)).trans HRes1.out)
  obtain ⟨va, vn, vc, rfl⟩ := hv.isSl
  clear hv hb2
  obtain ⟨nM, hnM, hlen⟩ := lenS_run HM.out
  have hmbl := World.ownsMap.lt HM.out
  have hlen3 := hlen (((w2.alloc (.cells #[.slice va vn vc] 23)).alloc (.map #[] 0)).alloc (.cells #[.slice none 0 0, .map (some (w2.heap.size + 1)), .string (bs []), .slice none 0 0, .int .i64 0, .int .i64 0, .bool true] 415))
    ((heap3 w2 _ _ _).2.2.2.2.block mb (Nat.lt_of_lt_of_le hmbl HB2.out.size) |>.trans (HB2.out.block mb hmbl))
  clear hlen
  obtain ⟨w3, hw3⟩ : ∃ w3, w3 = ((w2.alloc (.cells #[.slice va vn vc] 23)).alloc (.map #[] 0)).alloc (.cells #[.slice none 0 0, .map (some (w2.heap.size + 1)), .string (bs []), .slice none 0 0, .int .i64 0, .int .i64 0, .bool true] 415) := ⟨_, rfl⟩
  have HB3 := Lib.hid (show Below w2.heap.size w2 w3 by rw [hw3]; exact (heap3 w2 _ _ _).2.2.2.2)
  have HPl := Lib.hid (show PlanAt w3 (w2.heap.size + 1 + 1) w2.heap.size (w2.heap.size + 1) (w2.heap.size + 3) (.string (bs [])) (.slice none 0 0) 0 0 by
    have hv' := HV.out.below HB3.out
    obtain ⟨q1, q2, q3, q4, q5⟩ := heap3 w2 (.cells #[.slice va vn vc] 23) (.map #[] 0) (.cells #[.slice none 0 0, .map (some (w2.heap.size + 1)), .string (bs []), .slice none 0 0, .int .i64 0, .int .i64 0, .bool true] 415)
    rw [← hw3] at q1 q2 q3 q4 q5
    rcases hv'.2 with ⟨e, e0⟩ | ⟨gq, cp, cur, e, _, hgq, _⟩
    · rw [secs_len] at e0; omega
    · refine ⟨.slice none 0 0, .slice va vn vc, [], gq, cur, q3, q1, OwnR.nil _ _, rfl, hv'.rowG, fun b o s n c e2 => ?_, hgq, ?_⟩
      · rw [e] at e2; simp only [Value.slice.injEq, Option.some.injEq, Addr.mk.injEq] at e2; exact e2.1.1.symm
      · have := lt_of_heap hgq
        omega)
  have HPI := Lib.hid (show PI w (w2.heap.size + 1 + 1) w2.heap.size (w2.heap.size + 1) (w2.heap.size + 3) (.string (bs [])) (.slice none 0 0) 0 0 (.slice none 0 0) [] w3 from by
    have q4 : w3.heap.size = w2.heap.size + 3 := by rw [hw3]; simp
    have hl := lt_of_heap HRes2.out
    refine ⟨HPl.out, ⟨#[], 0, ?_, fun x hx => by simp at hx⟩, HB2.out.trans (HB3.out.mono HB2.out.size), OwnR.nil _ _, (HB3.out.block _ hl).trans HRes2.out, by omega, by omega, by omega, by omega, by omega, by omega⟩
    rw [hw3]; exact (heap3 w2 _ _ _).2.1)
  have hq4 : w3.heap.size = w2.heap.size + 3 := by rw [hw3]; simp
  go_wp2_with fail
  rw [← hw3]
  clear hw3 HRes HRes1 HRes2 HFS HV HB1 HBa HSta HM2a HDka HPl HB3 hlen3
  obtain ⟨P, hP⟩ : ∃ P, P = w2.heap.size + 1 + 1 := ⟨_, rfl⟩
  obtain ⟨Fb, hFb⟩ : ∃ P, P = w2.heap.size := ⟨_, rfl⟩
  obtain ⟨ml, hml⟩ : ∃ P, P = w2.heap.size + 1 := ⟨_, rfl⟩
  obtain ⟨base, hbs⟩ : ∃ P, P = w2.heap.size + 3 := ⟨_, rfl⟩
  rw [← hbs, ← hP, ← hml, ← hFb] at HPI
  rw [← hbs] at hq4
  rw [← hP, ← hml, ← hFb]
  clear hP hFb hml hbs HB2
  refine (uint_any nM w3 (by omega)).mono ?_
  rintro e w4 ⟨rfl, hb4⟩
  have HPI4 := Lib.hid (HPI.out.below' hb4)
  have HL4 := Lib.hid (show base ≤ w4.heap.size by have := hb4.size; omega)
  have hdl : (uintL nM).length ≤ 2 := uintL_len 2 nM (by omega) (by omega)
  generalize uintL nM = dl at *
  clear hb4 HPI hq4
  go_wp2_with fail
  refine (keysM_any (some mb) w4).mono ?_
  rintro e w5 ⟨rfl, rfl⟩
  go_wp2_with fail
  refine (sortedM_any mb M Dn g w4 (HM.out.below HPI4.out.below) hg (by omega)).mono ?_
  rintro e w6 ⟨nv, ss, rfl, hown, hsl, hpw, hin, hb6⟩
  have HPI5 := Lib.hid (show PI w P Fb ml base (.string (bs [])) (.slice none 0 0) 0 0 nv ss w6 from by
    have q := HPI4.out.below' hb6
    exact ⟨q.plan, q.keys, q.below, ownsRow_base hown HL4.out, q.res, q.far⟩)
  obtain ⟨na, nn, nc, rfl⟩ := hown.isSl
  have hnn : nn = ss.length := (hown.rowG.len).1
  subst hnn
  have HIn := Lib.hid hin
  have HPw := Lib.hid hpw
  have HNm := Lib.hid hnm
  have HG := Lib.hid hg
  have HTot := Lib.hid (tkOf_le (g := g) hsl hM hpw (fun nm hm => by obtain ⟨d, hd⟩ := hin nm hm; unfold lenF; rw [hd]; exact (hnm nm d hd).2))
  clear hown hb6 HPI4 HL4 hin hpw hnm hg
  go_wp2_with fail
  go_loopw [34, 8] (fun i ds wr => ∃ (k : Nat) (dl : Bytes), i = .int .i64 (k : Int) ∧ ds = .string (bs dl) ∧ k ≤ ss.length ∧ PI w P Fb ml base (.string (bs [])) (.slice none 0 0) (tkOf g (ss.take k)) (tkOf g (ss.take k)) (.slice na ss.length nc) ss wr ∧ dl.length ≤ 2 + k * 19 + 2 * tkOf g (ss.take k))
    (fun i _ _ => ss.length - (intOf i).toNat)
  case atStart => exact ⟨0, dl, rfl, rfl, Nat.zero_le _, HPI5.out, by omega⟩
  case round =>
    obtain ⟨k, dl, rfl, rfl, hk, hpi, hdl⟩ := hrel
    have HPI := Lib.hid hpi
    clear hpi HPI5
    by_cases hlt : k < ss.length
    · obtain ⟨nm, hnme⟩ : ∃ nm, nm = ss.getD k [] := ⟨_, rfl⟩
      have hmem : nm ∈ ss := by rw [hnme, List.getD_eq_getElem?_getD, List.getElem?_eq_getElem hlt]; exact List.getElem_mem hlt
      obtain ⟨dt, hdt⟩ := HIn.out nm hmem
      obtain ⟨hn16, hdlim⟩ := HNm.out nm dt hdt
      have hdl16 : dt.length ≤ 2880 := by unfold limF at hdlim; split at hdlim <;> omega
      have HTk := Lib.hid (tkOf_succ g ss hlt)
      have HT2 := Lib.hid (tkOf_take g ss (k + 1))
      rw [← hnme, show lenF g nm = dt.length by unfold lenF; rw [hdt]] at HTk
      have hTot := HTot.out
      have hTk := HTk.out
      have hT2 := HT2.out
      obtain ⟨tk1, htk1⟩ : ∃ x, x = tkOf g (ss.take (k + 1)) := ⟨_, rfl⟩
      rw [← htk1] at HTk HT2 hTk hT2
      have HTD := Lib.hid htk1
      clear htk1
      generalize tkOf g (ss.take k) = tk0 at *
      generalize tkOf g ss = tkA at *
      have cN := HPI.out.names.rowG.at_ (k := 1) (fun _ => rfl) [] hlt
      rw [← hnme] at cN
      have HDT := Lib.hid hdt
      clear hnme hdt
      obtain ⟨nb, noff, rfl, hnl, cN⟩ := cN
      have cN : wr.cell? ⟨nb, noff + k * 1 + 0, none⟩ = some (.string (bs nm)) := cN 0 (by omega)
      have HL1 := Lib.hid (look_file (HM.out.below HPI.out.below) HG.out (by omega) HDT.out)
      have hl1 := HL1.out
      simp only [Nat.mul_one, Nat.add_zero] at cN
      have hSt4 : StoreAt wr S d m m2 := (HPI.out.below.block S (lt_of_heap HSt.out)).trans HSt.out
      have cS2 := hSt4.cells.2.2.1
      have hSl := lt_of_heap hSt4
      have hl2 := look_last (OMap.below HM2.out (HPI.out.below.trans ((Below.refl _ _).alloc HPI.out.below.size (.cells #[.string (bs dt), .slice none 0 0] 157)))) (nm := nm) (by omega)
      clear hSt4
      go_wp2_with fail
      obtain ⟨k2h1, k2h2⟩ := heap2 wr (.cells #[.string (bs dt), .slice none 0 0] 157) (.cells #[.string (bs []), .slice none 0 0] 157)
      have hbw : Below wr.heap.size wr ((wr.alloc (.cells #[.string (bs dt), .slice none 0 0] 157)).alloc (.cells #[.string (bs []), .slice none 0 0] 157)) := ((Below.refl _ _).alloc (Nat.le_refl _) _).alloc (by simp) _
      have HPI7 := Lib.hid (HPI.out.below' hbw)
      have hszw : ((wr.alloc (.cells #[.string (bs dt), .slice none 0 0] 157)).alloc (.cells #[.string (bs []), .slice none 0 0] 157)).heap.size = wr.heap.size + 2 := by simp
      have HKb := Lib.hid HPI.out.far.2.2.2.2.2
      generalize ((wr.alloc (.cells #[.string (bs dt), .slice none 0 0] 157)).alloc (.cells #[.string (bs []), .slice none 0 0] 157)) = w7 at *
      generalize wr.heap.size = K at *
      clear hl1 hl2 hbw cN cS2 hSl HPI
      refine (chunks_any [] w7 (by simp)).mono ?_
      rintro e w8 ⟨ov, os, rfl, hov, hol, -, hb8⟩
      obtain ⟨oa, on, oc, rfl⟩ := hov.isSl
      have hon : on = 0 := by rw [(hov.rowG.len).1, hol]; rfl
      subst hon
      have HPI8 := Lib.hid (HPI7.out.below' hb8)
      have hk8 : w8.heap[K]? = some (.cells #[.string (bs dt), .slice none 0 0] 157 (0, 0)) := (hb8.block K (by omega)).trans k2h1
      have hk9 : w8.heap[K + 1]? = some (.cells #[.string (bs []), .slice none 0 0] 157 (0, 0)) := (hb8.block (K + 1) (by omega)).trans k2h2
      have hK8 : K + 2 ≤ w8.heap.size := by have := hb8.size; omega
      clear hov hol hb8 k2h1 k2h2 hszw HPI7
      have HK8 := Lib.hid hk8
      have HK9 := Lib.hid hk9
      have cK0 : w8.cell? ⟨K, 0, none⟩ = some (.string (bs dt)) := by rw [cell_of_row w8 _ _ _ _ _ hk8]; rfl
      clear hk8 hk9
      have ht2 : (uintL dt.length).length ≤ 2 := uintL_len 2 _ (by omega) (by omega)
      have ht3 : (uintL nm.length ++ nm).length ≤ 17 := by have : (uintL nm.length).length ≤ 1 := uintL_len 1 _ (by omega) (by omega); rw [List.length_append]; omega
      have HC1 := Lib.hid (fun W => textG_any nm W (by omega))
      have HC2 := Lib.hid (fun W => uint_any dt.length W (by omega))
      have hwr : IntKind.u64.wrap ((dt.length : Nat) : Int) = ((dt.length : Nat) : Int) := by rw [IntKind.wrap_u64]; omega
      generalize uintL nm.length ++ nm = T1 at *
      generalize uintL dt.length = T2 at *
      have hg1 : ¬ (T1.length + T2.length > 9223372036854775807) := by omega
      have hg2 : ¬ (dl.length + (T1.length + T2.length) > 9223372036854775807) := by omega
      have hg3 : ¬ (dl.length + (T1 ++ T2).length > 9223372036854775807) := by rw [List.length_append]; omega
      have HS0 := Lib.hid (show w8.drew.cell? ⟨K, 0, none⟩ = some (.string (bs dt)) ∧ Below w8.heap.size w8 w8.drew from ⟨cK0, (Below.refl _ _).drew⟩)
      go_wp2_with fail
      go_region_held3 (fun w' => w'.cell? ⟨K, 0, none⟩ = some (.string (bs dt)) ∧ Below w8.heap.size w8 w')
        (first | assumption | exact HS0.out | exact keepCB (by assumption) hbT | exact keepCB (by assumption) hbU)
        (first
          | (go_at_call 40; refine (HC1.out _).mono ?_; rintro e w2 ⟨rfl, hbT⟩)
          | (go_at_call 86; refine (HC2.out _).mono ?_; rintro e w3 ⟨rfl, hbU⟩))
      have hS3 : w3.cell? ⟨K, 0, none⟩ = some (.string (bs dt)) ∧ Below w8.heap.size w8 w3 := by assumption
      have cK3 := hS3.1
      have HPI3 := Lib.hid (HPI8.out.below' hS3.2)
      have HK3 := Lib.hid ((hS3.2.block K (by omega)).trans HK8.out)
      have HK4 := Lib.hid ((hS3.2.block (K + 1) (by omega)).trans HK9.out)
      have hK3 : K + 2 ≤ w3.heap.size := by have := hS3.2.size; omega
      obtain ⟨dl1, hdl1⟩ : ∃ x, x = dl ++ (T1 ++ T2) := ⟨_, rfl⟩
      have hdl1l : dl1.length ≤ dl.length + 19 := by rw [hdl1]; simp only [List.length_append]; omega
      rw [← hdl1]
      clear hdl1 hS3 hbT hbU HPI8 HK8 HK9 HS0 hg1 hg2 hg3 cK0 hK8 HC1 HC2 hwr
      go_wp2_with fail
      refine (chunks_any dt w3 (by omega)).mono ?_
      rintro e w9 ⟨cv, cs, rfl, hcv, hcl, hc64, hb9⟩
      obtain ⟨ca, cn, cc, rfl⟩ := hcv.isSl
      have hcn : cn = cs.length := (hcv.rowG.len).1
      subst hcn
      have HPI9 := Lib.hid (HPI3.out.below' hb9)
      have hk5 : w9.heap[K]? = some (.cells #[.string (bs dt), .slice none 0 0] 157 (0, 0)) := (hb9.block K (by omega)).trans HK3.out
      have HK5 := Lib.hid hk5
      have HK6 := Lib.hid ((hb9.block (K + 1) (by omega)).trans HK4.out)
      have HCV := Lib.hid (ownsRow_base (b' := K + 2) hcv hK3)
      have HW9 := Lib.hid (Nat.le_trans hK3 hb9.size)
      have HCL := Lib.hid hcl
      clear hcl
      clear hcv hb9 HPI3 HK3 HK4 hk5 hK3 cK3
      go_wp2_with fail
      go_loopw [65, 8] (fun i ds W => ∃ (j : Nat) (dl2 : Bytes) (sv : Value) (sl : List Int), i = .int .i64 (j : Int) ∧ ds = .string (bs dl2) ∧ j ≤ cs.length ∧ PI w P Fb ml base (.string (bs [])) (.slice none 0 0) tk0 (tk0 + j) (.slice (some ⟨nb, noff, none⟩) ss.length nc) ss W ∧
          W.heap[K]? = some (.cells #[.string (bs dt), sv] 157 (0, 0)) ∧ OwnR 3 1 encI W (K + 2) sv sl ∧ sl.length = j ∧ OwnR 9 1 encT W (K + 2) (.slice ca cs.length cc) cs ∧ dl2.length ≤ dl1.length + 2 * j ∧ K + 2 ≤ W.heap.size)
        (fun i _ _ => cs.length - (intOf i).toNat)
      case atStart => exact ⟨0, dl1, _, [], rfl, rfl, Nat.zero_le _, HPI9.out, HK5.out, OwnR.nil _ _, rfl, HCV.out, by omega, HW9.out⟩
      case round =>
        obtain ⟨j, dl2, sv, sl, rfl, rfl, hj, hpi, hk5, hsv, hsl, hcv, hd2, hw9⟩ := hrel
        have HPj := Lib.hid hpi
        have HKj := Lib.hid hk5
        have HSj := Lib.hid hsv
        have HCj := Lib.hid hcv
        clear hpi HPI9 HK5 HCV HW9
        by_cases hjl : j < cs.length
        · have cC := hcv.rowG.at_ (k := 1) (fun _ => rfl) [] hjl
          obtain ⟨c, hce⟩ : ∃ c, c = cs.getD j [] := ⟨_, rfl⟩
          rw [← hce] at cC
          clear hce
          obtain ⟨cb, coff, rfl, hcl', cC⟩ := cC
          have cC : wr.cell? ⟨cb, coff + j * 1 + 0, none⟩ = some (.string (bs c)) := cC 0 (by omega)
          simp only [Nat.mul_one, Nat.add_zero] at cC
          clear hcv hk5 hsv
          go_wp2_with fail
          refine (take_any c P Fb ml base _ _ tk0 (tk0 + j) wr HPj.out.plan (by have := HCL.out; omega) HPj.out.far.2.2.2.2.2).mono ?_
          rintro e w10 ⟨x, rfl, hx2, hx5, hp10, ho10⟩
          obtain ⟨xn, rfl⟩ : ∃ n : Nat, x = n := ⟨x.toNat, by omega⟩
          have HP10 := Lib.hid (HPj.out.ofPlan hp10 ho10 (fun k hk => hk))
          have HK10 := Lib.hid ((ho10.block K (lt_of_heap HKj.out) (HPj.out.plan.not_tk HKj.out (by decide) (by decide) (by decide))).trans HKj.out)
          have HS10 := Lib.hid (HPj.out.plan.row_tk HSj.out ho10 (by decide) (by decide) (by decide))
          have HC10 := Lib.hid (HPj.out.plan.row_tk HCj.out ho10 (by decide) (by decide) (by decide))
          have hw10 := Nat.le_trans hw9 ho10.size
          clear hp10 ho10 HPj HKj HSj HCj hcl' cC
          obtain ⟨sa, sn, sc, rfl⟩ := HS10.out.isSl
          have k10 : w10.cell? ⟨K, 1, none⟩ = some (.slice sa sn sc) := by rw [cell_of_row w10 _ _ _ _ _ HK10.out]; rfl
          have HX10 := Lib.hid (heap_alloc_new w10 (.cells #[.int .i64 (xn : Int)] 3))
          have HN10 := Lib.hid (show K + 2 ≤ (w10.alloc (.cells #[.int .i64 (xn : Int)] 3)).heap.size by simp; omega)
          have HS11 := Lib.hid (HS10.out.below ((Below.refl _ _).alloc (Nat.le_refl _) (.cells #[.int .i64 (xn : Int)] 3)))
          have HKg := Lib.hid (fun w11 (hg : (w10.alloc (.cells #[.int .i64 (xn : Int)] 3)).grownBy w11 (Value.slice sa sn sc).ownBlock) => show w11.heap[K]? = some (.cells #[.string (bs dt), .slice sa sn sc] 157 (0, 0)) from
            (hg.block K (by have := lt_of_heap HK10.out; simp; omega) (fun e => HS10.out.ne_of HK10.out (by decide) e.symm)).trans (heap_old HK10.out))
          have hsl9 : sl.length ≤ 1000000000 := by have := HCL.out; omega
          go_wp2_with (at_builtin; refine app1 tyInt _ rfl (.tmp 91) (.tmp 93) rfl (K + 2) _ sl (xn : Int) w10.heap.size rfl (by rfl) #[.int .i64 (xn : Int)] rfl HX10.out HS11.out HN10.out hsl9 ?_; intro g' cap' w11 hown3 hbel3 hgr3; have HP4 := HKg.out w11 hgr3; have HO4 := Lib.hid hown3; have HG4 := Lib.hid hgr3; have c4 : w11.cell? ⟨K, 1, none⟩ = some (.slice sa sn sc) := by { rw [cell_of_row w11 _ _ _ _ _ HP4]; rfl }; have f4 : w11.frozen? ⟨K, 1, none⟩ = false := by { simp [World.frozen?, HP4] }; have HP5 := Lib.hid HP4; clear hown3 hbel3 hgr3 HP4)
          obtain ⟨hpi11, ho11⟩ := HP10.out.appK (v' := .slice (some ⟨g', 0, none⟩) (j + 1) cap') HK10.out HS10.out HKb.out HG4.out
          have HPI11 := Lib.hid hpi11
          have hK11 := heap_setC (j := 1) (v := .slice (some ⟨g', 0, none⟩) (j + 1) cap') HP5.out
          have HK11 := Lib.hid (show (w11.setCell ⟨K, 1, none⟩ (.slice (some ⟨g', 0, none⟩) (j + 1) cap')).heap[K]? = some (.cells #[.string (bs dt), .slice (some ⟨g', 0, none⟩) (j + 1) cap'] 157 (0, 0)) by rw [hK11]; rfl)
          have h5 : OwnR 3 1 encI w11 (K + 2) (.slice (some ⟨g', 0, none⟩) (j + 1) cap') (sl ++ [(xn : Int)]) := by
            have := HO4.out
            rw [hsl] at this
            exact this
          have HS12 := Lib.hid (h5.out (Out.setCell w11 ⟨K, 1, none⟩ (.slice (some ⟨g', 0, none⟩) (j + 1) cap')) (fun q e e2 => h5.ne_of HP5.out (by decide) (e.trans (by rw [e2]))))
          have HC12 := Lib.hid (HC10.out.out ho11 (fun q hq hf => by
            rcases hf with rfl | hf
            · exact HC10.out.ne_of HK10.out (by decide) hq
            · rcases HS10.out.2 with ⟨e, _⟩ | ⟨g9, cp, cur, e, _, hg9, _⟩
              · rw [e] at hf; simp [Value.ownBlock] at hf
              · rw [e] at hf
                simp only [Value.ownBlock, Option.some.injEq] at hf
                subst hf
                exact HC10.out.ne_of hg9 (by decide) hq))
          have hw12 := Nat.le_trans hw10 ho11.size
          clear hpi11 ho11 hK11 h5 HO4 HG4 HP5 HP10 HK10 HS10 HC10 HX10 HN10 HS11 HKg c4 f4 k10
          generalize w11.setCell ⟨K, 1, none⟩ (.slice (some ⟨g', 0, none⟩) (j + 1) cap') = w12 at *
          refine (uint_any xn w12 (by omega)).mono ?_
          rintro e w13 ⟨rfl, hb13⟩
          have ht5 : (uintL xn).length ≤ 2 := uintL_len 2 _ (by omega) (by omega)
          generalize uintL xn = T3 at *
          have HPI13 := Lib.hid (HPI11.out.below' hb13)
          have HK13 := Lib.hid ((hb13.block K (by omega)).trans HK11.out)
          have HS13 := Lib.hid (HS12.out.below hb13)
          have HC13 := Lib.hid (HC12.out.below hb13)
          have hw13 := Nat.le_trans hw12 hb13.size
          have hg1 : ¬ (dl2.length + T3.length > 9223372036854775807) := by omega
          clear hb13 HPI11 HK11 HS12 HC12
          go_wp2_with fail
          go_roundw
          case rel => exact ⟨j + 1, dl2 ++ T3, _, sl ++ [(xn : Int)], by go_num, rfl, by omega, HPI13.out, HK13.out, HS13.out, by simp [hsl], HC13.out, by simp only [List.length_append]; omega, hw13⟩
          case measure => simp [intOf]; omega
        · have hje : j = cs.length := by omega
          obtain ⟨sa, sn, sc, rfl⟩ := hsv.isSl
          have hsn : sn = j := by rw [(hsv.rowG.len).1, hsl]
          subst hsn
          obtain ⟨uP, qP, q0, q1, q2, q3, q4, q5, q6, qf, -⟩ := HPj.out.plan.cells
          obtain ⟨hrun, hpm, hgm⟩ := HPj.out.mapPut (nm := nm) (v := .agg #[.string (bs dt), .slice sa sn sc]) (by omega)
          have a0 : wr.cell? ⟨K, 0, none⟩ = some (.string (bs dt)) := by rw [cell_of_row wr _ _ _ _ _ HKj.out]; rfl
          have a1 : wr.cell? ⟨K, 1, none⟩ = some (.slice sa sn sc) := by rw [cell_of_row wr _ _ _ _ _ HKj.out]; rfl
          obtain ⟨es, clk, hesm, -⟩ := HPj.out.keys
          have hKml : K ≠ ml := fun e => by have := HKj.out; rw [e, hesm] at this; cases this
          obtain ⟨WM, hWM⟩ : ∃ WM, WM = mapPut Tryz.prog 151 ml (.string (bs nm)) (.agg #[.string (bs dt), .slice sa sn sc]) wr := ⟨_, rfl⟩
          rw [← hWM] at hrun hpm hgm
          have b1 : WM.cell? ⟨K, 1, none⟩ = some (.slice sa sn sc) := by rw [cell_of_row WM _ _ _ _ _ ((hgm.block K (lt_of_heap HKj.out) (by simp; exact hKml)).trans HKj.out)]; rfl
          obtain ⟨uM, qM, -, -, -, -, p4, -, -, pf, -⟩ := hpm.plan.cells
          have pf4 := pf 4
          have hcl2 : tk0 + sn = tk1 := by rw [hTk, hje, HCL.out]
          have HEnd := Lib.hid (show PI w P Fb ml base (.string (bs [])) (.slice none 0 0) tk1 tk1 (.slice (some ⟨nb, noff, none⟩) ss.length nc) ss (WM.setCell ⟨P, 4, none⟩ (.int .i64 (tk1 : Int))) from by
            have := hpm.setAll tk1
            rwa [hcl2] at this)
          have HEq := Lib.hid hcl2
          have hb409 : tk0 + sn ≤ 409 := by omega
          have hd3 : dl2.length ≤ 2 + (k + 1) * 19 + 2 * tk1 := by omega
          clear hcl2 hje hsl HCL HTot hTot HTk hTk hT2 HT2 hdl hdl1l hd2
          clear hWM hpm hgm hsv hcv hk5 q0 q2 q3 q4 q5 q6 qf qM qP pf HPj HKj HSj HCj hesm
          go_wp2_with fail
          have e9 : (tk0 : Int) + (sn : Int) = (tk1 : Int) := by have := HEq.out; omega
          rw [e9]
          go_roundw
          case rel => exact ⟨k + 1, dl2, by go_num, rfl, by omega, by rw [← HTD.out]; exact HEnd.out, by rw [← HTD.out]; exact hd3⟩
          case measure => simp [intOf]; omega
    · have hke : k = ss.length := by omega
      subst hke
      rw [List.take_length] at HPI hdl
      have hTot := HTot.out
      generalize tkOf g ss = tkA at *
      obtain ⟨uP, qP, -, -, q2, -, -, -, -, qf, -⟩ := HPI.out.plan.cells
      have qf2 := qf 2
      have HP2 := Lib.hid (HPI.out.setC2 (.string (bs dl)))
      have hdl2 : dl.length ≤ 1200 := by omega
      clear qf qP HPI HTot
      have hnd : nch dl.length ≤ 18 := by unfold nch; omega
      go_wp2_with fail
      generalize wr.setCell ⟨P, 2, none⟩ (.string (bs dl)) = w7 at *
      refine (chunks_any dl w7 (by omega)).mono ?_
      rintro e w8 ⟨cv, cs, rfl, hcv, hcl, -, hb8⟩
      obtain ⟨ca, cn, cc, rfl⟩ := hcv.isSl
      have hcn : cn = cs.length := (hcv.rowG.len).1
      subst hcn
      have hc18 : cs.length ≤ 18 := by omega
      have HPI8 := Lib.hid (HP2.out.below' hb8)
      have HCV := Lib.hid (ownsRow_base (b' := base) hcv HP2.out.far.2.2.2.2.2)
      clear hcv hcl hb8 HP2 hnd
      go_wp2_with fail
      go_loopw [120] (fun i W => ∃ (j : Nat) (sv : Value) (sl : List Int), i = .int .i64 (j : Int) ∧ j ≤ cs.length ∧ PI w P Fb ml base (.string (bs dl)) sv tkA (tkA + j) (.slice na ss.length nc) ss W ∧ OwnR 3 1 encI W base sv sl ∧ sl.length = j ∧ OwnR 9 1 encT W base (.slice ca cs.length cc) cs)
        (fun i _ => cs.length - (intOf i).toNat)
      case atStart => exact ⟨0, _, [], rfl, Nat.zero_le _, HPI8.out, OwnR.nil _ _, rfl, HCV.out⟩
      case round =>
        obtain ⟨j, sv, sl, rfl, hj, hpi, hsv, hsl, hcv⟩ := hrel
        have HPj := Lib.hid hpi
        have HSj := Lib.hid hsv
        have HCj := Lib.hid hcv
        clear hpi HPI8 HCV
        obtain ⟨sa, sn, sc, rfl⟩ := hsv.isSl
        have hsn : sn = j := by rw [(hsv.rowG.len).1, hsl]
        subst hsn
        by_cases hjl : sn < cs.length
        · have cC := hcv.rowG.at_ (k := 1) (fun _ => rfl) [] hjl
          obtain ⟨c, hce⟩ : ∃ c, c = cs.getD sn [] := ⟨_, rfl⟩
          rw [← hce] at cC
          clear hce
          obtain ⟨cb, coff, rfl, hcl', cC⟩ := cC
          have cC : wr.cell? ⟨cb, coff + sn * 1 + 0, none⟩ = some (.string (bs c)) := cC 0 (by omega)
          simp only [Nat.mul_one, Nat.add_zero] at cC
          have htk : tkA + sn < 510 := by omega
          have hbs9 := HPj.out.far.2.2.2.2.2
          have HT := Lib.hid (fun W (hW : Below wr.heap.size wr W) => take_any c P Fb ml base _ _ tkA (tkA + sn) W (HPj.out.plan.below hW) htk (Nat.le_trans hbs9 hW.size))
          have HRI := Lib.hid (fun W (hW : Below wr.heap.size wr W) w10 (ho : Out (TkF W P Fb base) W w10) => (HPj.out.plan.below hW).row_tk (HSj.out.below hW) ho (by decide) (by decide) (by decide))
          have HRC := Lib.hid (fun W (hW : Below wr.heap.size wr W) w10 (ho : Out (TkF W P Fb base) W w10) => (HPj.out.plan.below hW).row_tk (HCj.out.below hW) ho (by decide) (by decide) (by decide))
          have HRP := Lib.hid (fun W (hW : Below wr.heap.size wr W) w10 (ho : Out (TkF W P Fb base) W w10) (hp : PlanAt w10 P Fb ml base (.string (bs dl)) (.slice sa sn sc) tkA (tkA + sn + 1)) => (HPj.out.below' hW).ofPlan hp ho (fun k hk => hk))
          obtain ⟨uP, qP, -, -, -, q3, -, -, -, qf, -⟩ := HPj.out.plan.cells
          have qf3 := qf 3
          have HQ := Lib.hid (fun (W : World) (h : PlanAt W P Fb ml base (.string (bs dl)) (.slice sa sn sc) tkA (tkA + sn + 1)) => show W.cell? ⟨P, 3, none⟩ = some (.slice sa sn sc) ∧ W.frozen? ⟨P, 3, none⟩ = false by
            obtain ⟨uP, qP, -, -, -, q3, -, -, -, qf, -⟩ := h.cells
            exact ⟨q3, qf 3⟩)
          have HNe := Lib.hid (show some P ≠ (Value.slice sa sn sc).ownBlock from fun e => HSj.out.ne_of qP (by decide) e.symm)
          have HGk := Lib.hid (fun (W w11 : World) (o : Obj) (h : PlanAt W P Fb ml base (.string (bs dl)) (.slice sa sn sc) tkA (tkA + sn + 1)) (hg : (W.alloc o).grownBy w11 (Value.slice sa sn sc).ownBlock) => show w11.cell? ⟨P, 3, none⟩ = some (.slice sa sn sc) ∧ w11.frozen? ⟨P, 3, none⟩ = false by
            obtain ⟨uP, qP, -⟩ := h.cells
            have h1 := (hg.block P (lt_of_heap (heap_old qP)) HNe.out).trans (heap_old qP)
            exact ⟨by rw [cell_of_row w11 _ _ _ _ _ h1]; rfl, Lib.frozen_of_heap h1 3⟩)
          clear hcv hsv qP qf qf3 hcl'
          go_wp2_with fail
          go_region_law (first
            | (refine stepApp1 tyInt _ (by rfl) (.tmp 126) (.tmp 130) (by rfl) base (.slice sa sn sc) sl x w10.heap.size (by rfl) (by rfl) #[.int .i64 x] rfl (heap_alloc_new ..) ((HRI.out _ (by first | exact Below.refl _ _ | exact (Below.refl _ _).drew) _ ho10).below ((Below.refl _ _).alloc (Nat.le_refl _) _)) (by have := ho10.size; simp at this ⊢; omega) (by omega) ?_; intro g cap' w11 hown hbel hgrow hnewg; have c11 := (HGk.out _ _ _ hp10 hgrow).1; have f11 := (HGk.out _ _ _ hp10 hgrow).2)
            | (go_simp; go_wp2_with (go_at_call 340; refine (HT.out _ (by first | exact Below.refl _ _ | exact (Below.refl _ _).drew)).mono ?_; rintro e w10 ⟨x, rfl, hx2, hx5, hp10, ho10⟩; have q10 := (HQ.out _ hp10).1; have l10 := World.block_lt_of_cell? w10 _ q10)))
          all_goals
            (have hp' := HRP.out _ (by first | exact Below.refl _ _ | exact (Below.refl _ _).drew) _ ho10 hp10
             have hi' := (HRI.out _ (by first | exact Below.refl _ _ | exact (Below.refl _ _).drew) _ ho10).below ((Below.refl _ _).alloc (Nat.le_refl _) (.cells #[.int .i64 x] 3))
             have hc' := (HRC.out _ (by first | exact Below.refl _ _ | exact (Below.refl _ _).drew) _ ho10).below ((Below.refl _ _).alloc (Nat.le_refl _) (.cells #[.int .i64 x] 3))
             have hpa := (hp'.below' ((Below.refl _ _).alloc (Nat.le_refl _) (.cells #[.int .i64 x] 3))).out (Out.grown hgrow) (fun k hk => by
               rcases hi'.2 with ⟨e, _⟩ | ⟨g9, cp, cur, e, hg8, hg9, _⟩
               · rw [e] at hk; simp [Value.ownBlock] at hk
               · rw [e] at hk
                 simp only [Value.ownBlock, Option.some.injEq] at hk
                 subst hk
                 exact ⟨by have := hp'.far; omega, _, _, _, hg9, by decide, by decide, by decide, fun _ => hg8, by decide⟩)
             obtain ⟨uQ, qQ, -⟩ := hpa.plan.cells
             have HPn := Lib.hid (hpa.setC3 (.slice (some ⟨g, 0, none⟩) (sn + 1) cap'))
             have ho' : OwnR 3 1 encI w11 base (.slice (some ⟨g, 0, none⟩) (sn + 1) cap') (sl ++ [x]) := by
               have h7 := hown
               first | exact h7 | (rw [hsl] at h7; exact h7)
             have HOn := Lib.hid (ho'.out (Out.setCell w11 ⟨P, 3, none⟩ (.slice (some ⟨g, 0, none⟩) (sn + 1) cap')) (fun q e e2 => ho'.ne_of qQ (by decide) (e.trans (by rw [e2]))))
             have hc2 := hc'.kept hgrow (OwnR.apart hc' hi' (by decide))
             have HCn := Lib.hid (hc2.out (Out.setCell w11 ⟨P, 3, none⟩ (.slice (some ⟨g, 0, none⟩) (sn + 1) cap')) (fun q e e2 => hc2.ne_of qQ (by decide) (e.trans (by rw [e2]))))
             clear hp' hi' hc' hpa qQ ho' hc2 hown hbel hgrow hnewg c11 f11 q10 l10 hp10 ho10 HT HRI HRC HRP HQ HNe HGk
             go_wp2_with fail
             go_roundw
             case rel => exact ⟨sn + 1, _, sl ++ [x], by go_num, by omega, HPn.out, HOn.out, by simp [hsl], HCn.out⟩
             case measure => simp [intOf]; omega)
        · obtain ⟨uP, qP, q0, q1, q2, q3, q4, q5, q6, qf, ua, un, uc, rfl⟩ := HPj.out.plan.cells
          have qf6 := qf 6
          have hSt4 : StoreAt wr S d m m2 := (HPj.out.below.block S (lt_of_heap HSt.out)).trans HSt.out
          have cS0 := hSt4.cells.1
          obtain ⟨mm, hD0, -⟩ := HDk.out.below HPj.out.below
          have HSz := Lib.hid (sizeC_any d wr hD0)
          have hg20 : decide ((sn : Int) ≤ 20) = true := by simp; omega
          have hg21 : decide ((tkA : Int) + 2 * (sn : Int) ≤ 510) = true := by simp; omega
          clear hsv hcv qf hSt4 HSj HCj
          have HQP := Lib.hid qP
          clear qP
          have hraw : decide (IntKind.i64.wrap ((tkA : Int) + IntKind.i64.wrap (2 * (sn : Int))) ≤ IntKind.i64.wrap 510) = true := by
            rw [IntWalk.i64_in (2 * (sn : Int)) (by omega), IntWalk.i64_in _ (by omega), IntWalk.i64_in 510 (by omega)]; exact hg21
          have hSP : S ≠ P := by have h1 := lt_of_heap HSt.out; have h2 := HPj.out.far.1; omega
          have hdP : d ≠ P := by obtain ⟨_, h0, _⟩ := HDk.out; have h1 := World.block_lt_of_cell? w _ h0; have h2 := HPj.out.far.1; simp only at h1; omega
          have hQ6 : ((wr.setCell ⟨P, 6, none⟩ (.bool true)).drew).heap[P]? = _ := heap_setC HQP.out
          have HS9 := Lib.hid (show (wr.setCell ⟨P, 6, none⟩ (.bool (decide (IntKind.i64.wrap ((tkA : Int) + IntKind.i64.wrap (2 * (sn : Int))) ≤ IntKind.i64.wrap 510)))).drew.cell? ⟨P, 6, none⟩ = some (.bool true) ∧ (wr.setCell ⟨P, 6, none⟩ (.bool (decide (IntKind.i64.wrap ((tkA : Int) + IntKind.i64.wrap (2 * (sn : Int))) ≤ IntKind.i64.wrap 510)))).drew.frozen? ⟨P, 6, none⟩ = false ∧ (wr.setCell ⟨P, 6, none⟩ (.bool (decide (IntKind.i64.wrap ((tkA : Int) + IntKind.i64.wrap (2 * (sn : Int))) ≤ IntKind.i64.wrap 510)))).drew.cell? ⟨P, 4, none⟩ = some (.int .i64 (tkA : Int)) ∧ (wr.setCell ⟨P, 6, none⟩ (.bool (decide (IntKind.i64.wrap ((tkA : Int) + IntKind.i64.wrap (2 * (sn : Int))) ≤ IntKind.i64.wrap 510)))).drew.cell? ⟨S, 0, none⟩ = some (.pointer (some ⟨d, 0, none⟩)) ∧ (wr.setCell ⟨P, 6, none⟩ (.bool (decide (IntKind.i64.wrap ((tkA : Int) + IntKind.i64.wrap (2 * (sn : Int))) ≤ IntKind.i64.wrap 510)))).drew.cell? ⟨d, 0, none⟩ = some (.int .i64 512) from by
            rw [hraw]
            refine ⟨by rw [cell_of_row _ _ _ _ _ _ hQ6]; rfl, by simp [World.frozen?, hQ6], by rw [cell_of_row _ _ _ _ _ _ hQ6]; rfl, ?_, ?_⟩
            · exact (World.cell?_of_block (w := wr) (a := ⟨S, 0, none⟩) (Below.heap_setCell _ _ _ S hSP)).trans cS0
            · exact (World.cell?_of_block (w := wr) (a := ⟨d, 0, none⟩) (Below.heap_setCell _ _ _ d hdP)).trans hD0)
          rw [hraw] at HS9
          have HQ6 := Lib.hid hQ6
          clear hQ6 hSP hdP
          have HS0 := Lib.hid (show wr.drew.cell? ⟨P, 6, none⟩ = some (.bool true) ∧ wr.drew.frozen? ⟨P, 6, none⟩ = false ∧ wr.drew.cell? ⟨P, 4, none⟩ = some (.int .i64 (tkA : Int)) ∧ wr.drew.cell? ⟨S, 0, none⟩ = some (.pointer (some ⟨d, 0, none⟩)) ∧ wr.drew.cell? ⟨d, 0, none⟩ = some (.int .i64 512) from ⟨q6, qf6, q4, cS0, hD0⟩)
          go_wp2_with fail
          go_region_held3 (fun w' => w'.cell? ⟨P, 6, none⟩ = some (.bool true) ∧ w'.frozen? ⟨P, 6, none⟩ = false ∧ w'.cell? ⟨P, 4, none⟩ = some (.int .i64 (tkA : Int)) ∧ w'.cell? ⟨S, 0, none⟩ = some (.pointer (some ⟨d, 0, none⟩)) ∧ w'.cell? ⟨d, 0, none⟩ = some (.int .i64 512))
            (first | assumption | exact HS0.out | exact HS9.out | go_keep)
            (first
              | (go_at_call 204; refine (sizeC_any d _ (And.right (And.right (And.right (And.right (by assumption)))))).mono ?_; rintro e w2 ⟨rfl, rfl⟩))
          have HR6 := Lib.hid (show ((wr.setCell ⟨P, 6, none⟩ (.bool true)).drew).heap[w.heap.size]? = _ from heap_setO HPj.out.res (by have := HPj.out.far.1; omega))
          have HB6 := Lib.hid (show Below w.heap.size w ((wr.setCell ⟨P, 6, none⟩ (.bool true)).drew) from (HPj.out.below.setCell (p := ⟨P, 6, none⟩) (by have := HPj.out.far.1; simp only; omega) _).drew)
          generalize ((wr.setCell ⟨P, 6, none⟩ (.bool true)).drew) = W9 at *
          have r0 : W9.cell? ⟨P, 0, none⟩ = some (.slice ua un uc) := by rw [cell_of_row _ _ _ _ _ _ HQ6.out]; rfl
          have r1 : W9.cell? ⟨P, 1, none⟩ = some (.map (some ml)) := by rw [cell_of_row _ _ _ _ _ _ HQ6.out]; rfl
          have r2 : W9.cell? ⟨P, 2, none⟩ = some (.string (bs dl)) := by rw [cell_of_row _ _ _ _ _ _ HQ6.out]; rfl
          have r3 : W9.cell? ⟨P, 3, none⟩ = some (.slice sa sn sc) := by rw [cell_of_row _ _ _ _ _ _ HQ6.out]; rfl
          have r4 : W9.cell? ⟨P, 4, none⟩ = some (.int .i64 (tkA : Int)) := by rw [cell_of_row _ _ _ _ _ _ HQ6.out]; rfl
          have r5 : W9.cell? ⟨P, 5, none⟩ = some (.int .i64 ((tkA + sn : Nat) : Int)) := by rw [cell_of_row _ _ _ _ _ _ HQ6.out]; rfl
          have r6 : W9.cell? ⟨P, 6, none⟩ = some (.bool true) := by rw [cell_of_row _ _ _ _ _ _ HQ6.out]; rfl
          have rf : ∀ i, W9.frozen? ⟨w.heap.size, i, none⟩ = false := fun i => by simp [World.frozen?, HR6.out]
          have f0 := rf 0
          have f1 := rf 1
          have f2 := rf 2
          have f3 := rf 3
          have f4 := rf 4
          have f5 := rf 5
          have f6 := rf 6
          have e0 : W9.cell? ⟨w.heap.size, 0, none⟩ = some (.slice none 0 0) := by rw [cell_of_row _ _ _ _ _ _ HR6.out]; rfl
          have e1 : W9.cell? ⟨w.heap.size, 1, none⟩ = some (.map none) := by rw [cell_of_row _ _ _ _ _ _ HR6.out]; rfl
          have e2 : W9.cell? ⟨w.heap.size, 2, none⟩ = some (.string (bs [])) := by rw [cell_of_row _ _ _ _ _ _ HR6.out]; rfl
          have e3 : W9.cell? ⟨w.heap.size, 3, none⟩ = some (.slice none 0 0) := by rw [cell_of_row _ _ _ _ _ _ HR6.out]; rfl
          have e4 : W9.cell? ⟨w.heap.size, 4, none⟩ = some (.int .i64 0) := by rw [cell_of_row _ _ _ _ _ _ HR6.out]; rfl
          have e5 : W9.cell? ⟨w.heap.size, 5, none⟩ = some (.int .i64 0) := by rw [cell_of_row _ _ _ _ _ _ HR6.out]; rfl
          have e6 : W9.cell? ⟨w.heap.size, 6, none⟩ = some (.bool false) := by rw [cell_of_row _ _ _ _ _ _ HR6.out]; rfl
          clear rf
          have HRes := Lib.hid (heap_setC (j := 6) (v := .bool true) (heap_setC (j := 5) (v := .int .i64 ((tkA : Int) + (sn : Int))) (heap_setC (j := 4) (v := .int .i64 (tkA : Int)) (heap_setC (j := 3) (v := .slice sa sn sc) (heap_setC (j := 2) (v := .string (bs dl)) (heap_setC (j := 1) (v := .map (some ml)) (heap_setC (j := 0) (v := .slice ua un uc) HR6.out)))))))
          go_wp2_with fail
          refine bodyPost_ret (results_cell_row rfl _ _ w.heap.size _ _ _ _ rfl HRes.out Tryz.underlying415 rfl (by kernel_rfl)) rfl ⟨.slice ua un uc, .map (some ml), .string (bs dl), .slice sa sn sc, .int .i64 (tkA : Int), .int .i64 ((tkA : Int) + (sn : Int)), rfl, ?_⟩
          exact ((((((HB6.out.setCell (Nat.le_refl _) _).setCell (Nat.le_refl _) _).setCell (Nat.le_refl _) _).setCell (Nat.le_refl _) _).setCell (Nat.le_refl _) _).setCell (Nat.le_refl _) _).setCell (Nat.le_refl _) _

end Go.Proofs.YtheenlomlmbjaaaGreatDoor
