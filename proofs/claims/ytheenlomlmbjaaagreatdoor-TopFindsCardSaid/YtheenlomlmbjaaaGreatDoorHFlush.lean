/-
  engine.flush of a database that was never flushed.
-/
import Derived.Test.YtheenlomlmbjaaaGreatDoorHRg57
import Derived.Test.YtheenlomlmbjaaaGreatDoorGIn
import Derived.Outline
import Derived.Deep.DeepFit
import Derived.BigQuiet
import Derived.Deep.DrawnRows
import Derived.Deep.RegionLaw
import Derived.Deep.RegionHeld3
import Derived.Deep.DeepCutAuto
set_option linter.unusedSimpArgs false
set_option linter.unusedVariables false
namespace Go.Proofs.YtheenlomlmbjaaaGreatDoor
open Go.RowKit Go.Maps
attribute [local go_sem ↓] Go.wp_at_zero Go.wp_at_succ

set_option maxRecDepth 100000 in
set_option maxHeartbeats 8000000 in
theorem flush_any (base X d S I p : Nat) (hv : Value) (FSb FI FP FH : Bl) (was : Bytes) (f : Fs) (H : List Ser) (ts : List Int) (w : World) (h : Db base w X d S I p hv FSb FI FP FH f 5 H) (hf : f walNm = some was) (hH : HOk ts H) (hT : TimesOk ts) :
    FlushSaid base X S p w := by
  unfold FlushSaid
  have HDb := Lib.hid h
  have HF := Lib.hid hf
  have hXl := lt_of_heap h.x
  obtain ⟨-, c1, c2, c3, c4, c5, c6, c10, -, c12, -⟩ := dbC_cells h.x
  have HR := Lib.hid (hH.rday hT.len)
  have HDs := Lib.hid (HR.out.days hT)
  have HH := Lib.hid hH
  have HT := Lib.hid hT
  have hT12 := hT.len
  obtain ⟨R, hR⟩ : ∃ R, R = rowsOf H := ⟨_, rfl⟩
  obtain ⟨n, hn⟩ : ∃ n, n = R.length := ⟨_, rfl⟩
  have hn60 : n ≤ 60 := by rw [hn, hR]; exact HR.out.len
  have HRo := Lib.hid (fun (W : World) (hb : Below w.heap.size w W) => rowsG_or hv H W ((h.hd.below hb).now) (by have := hH.len; omega) (by have := hH.tot hT.len; omega))
  rw [← hR] at HR HDs HRo
  have HN := Lib.hid hn
  have HG0 := Lib.hid (GrpD.start w)
  have HB0 := Lib.hid (show Below w.heap.size w (w.alloc (.map #[] 0)) from (Below.refl _ _).alloc (Nat.le_refl _) _)
  have hmm := @run_makeMap Tryz.prog
  clear h hf hH hT hR hn
  go_enter Tryz.func63, Tryz.ntmps63
  go_upto_region 2 with (fail)
  generalize w.alloc (.map #[] 0) = W1 at *
  clear hmm
  have d10 := (HB0.out.cell (p := ⟨X, 10, none⟩) hXl).trans c10
  have HRo1 := Lib.hid (HRo.out W1 HB0.out)
  clear c10 HRo
  go_wp2_with fail
  refine HRo1.out.mono ?_
  rintro e w2 ⟨r, rfl, hr, hro, hb2⟩
  have HGR0 := Lib.hid (GrpR.start R HG0.out hb2)
  have HB2 := Lib.hid (HB0.out.trans (hb2.mono HB0.out.size))
  obtain ⟨m0, hm0, -⟩ := HG0.out.map
  have hz1 : w.heap.size < W1.heap.size := World.ownsMap.lt hm0
  have HU := Lib.hid (fun (W' : World) (ho : Out (fun j => j = w.heap.size) w2 W') => rows_stay hr hro hz1 ho)
  have HZ2 := Lib.hid (show w.heap.size < w2.heap.size from Nat.lt_of_lt_of_le hz1 hb2.size)
  obtain ⟨ra, rc, rfl, rc1, rc2, -⟩ := hr
  rw [← HN.out] at HU rc1 ⊢
  clear hro hb2 d10 HRo1 HB0 HG0 hm0 hz1
  go_wp2_with fail
  go_loopw [40] (fun x wr => ∃ (k : Nat) (D : DataW Value) (V : Int → Value), x = .int .i64 k ∧ k ≤ n ∧ GrpR w.heap.size w2 R k D V wr) (fun x wr => n - (intOf x).toNat)
  case atStart => exact ⟨0, _, _, rfl, Nat.zero_le _, HGR0.out⟩
  case round =>
    clear HGR0
    obtain ⟨k, D, V, rfl, hk, hgp⟩ := hrel
    have HG := Lib.hid hgp
    have HU1 := Lib.hid (HU.out wr hgp.out)
    by_cases hlt : k < n
    · have hkR : k < R.length := by rw [← HN.out]; exact hlt
      obtain ⟨bx, off, rfl, hbs, hc⟩ := HU1.out.at_ (fun _ => rfl) (0, 0, 0) (i := k) hkR
      have e0 := hc 0 (by omega)
      have e1 := hc 1 (by omega)
      have e2 := hc 2 (by omega)
      have hrm := getD_mem' (0, 0, 0) hkR
      obtain ⟨⟨ht0, ht1, -, -⟩, -⟩ := HR.out.ok.ok _ hrm
      have HTk := Lib.hid (rows_take R hkR)
      have hRk : (R.take k).length < 1000000 := by rw [List.length_take]; omega
      obtain ⟨t, id, v, hre⟩ : ∃ t id v, R.getD k (0, 0, 0) = (t, id, v) := ⟨_, _, _, rfl⟩
      rw [hre] at e0 e1 e2 ht0 ht1 HTk
      simp only [encRw, Nat.add_zero, List.getElem?_cons_zero, List.getElem?_cons_succ] at e0 e1 e2 ht0 ht1
      clear hre hrm hkR hc
      obtain ⟨dd, hdd⟩ : ∃ dd, dd = t / 100 := ⟨_, rfl⟩
      have hd0 : 0 ≤ dd := by omega
      have hd1 : dd < 100000 := by omega
      have HDay := Lib.hid (fun (W : World) => dayOf_any t W ht0 ht1)
      rw [← hdd] at HDay
      have hky := keyI hd0 hd1
      have HKY := Lib.hid hky
      obtain ⟨nm, hm1, hnm⟩ := hgp.g.map
      have hat := hgp.g.at_ dd
      have hown := hgp.g.own dd
      have hsl : (dayR (R.take k) dd).length ≤ 1000000 := Nat.le_trans (dayR_len _ _) (by omega)
      have HSt := Lib.hid (fun w1 g cap => hgp.step (w1 := w1) (r := (t, id, v)) (d := dd) (g := g) (cap := cap) HTk.out hdd hd0 hd1 hRk)
      generalize dayR (R.take k) dd = l0 at *
      generalize hsv : V dd = s at *
      have HS := Lib.hid (fun W (hW : Below wr.heap.size wr W) => hown.below hW)
      have hgB := fun o => mapGet_sameI (id := dd) (w' := (wr.alloc o).drew) hm1 Tryz.underlying231 zeroRws hky hat (((Below.refl _ _).alloc (Nat.le_refl _) _).drew)
      have hgC := fun o o' => mapGet_sameI (id := dd) (w' := ((wr.alloc o).alloc o').drew) hm1 Tryz.underlying231 zeroRws hky hat ((((Below.refl _ _).alloc (Nat.le_refl _) _).alloc (by simp) _).drew)
      have hgD := fun o o' => mapGet_sameI (id := dd) (w' := ((wr.alloc o).drew.alloc o')) hm1 Tryz.underlying231 zeroRws hky hat ((((Below.refl _ _).alloc (Nat.le_refl _) _).drew).alloc (by simp) _)
      have HRS := Lib.hid (fun (W : World) (hW : W.heap = (wr.alloc (.cells #[.int .i64 t, .int .i64 id, .int .i64 v] 119)).heap) => show RSd wr.heap.size w.heap.size t id v dd W from
        (RSd.mk hky (by rw [World.cell?_alloc_at _ _ _ _ rfl]; rfl) (by rw [World.cell?_alloc_at _ _ _ _ rfl]; rfl) (by rw [World.cell?_alloc_at _ _ _ _ rfl]; rfl) (hm1.keysOk.kept (World.grownBy_alloc wr _ none) (by simp))).heap hky hW)
      have hx1 := Lib.hid (show some wr.heap.size ≠ s.ownBlock from fun e => by have := (World.ownsRow.lt hown _ e.symm).2; omega)
      have hx2 := Lib.hid (show some w.heap.size ≠ s.ownBlock from fun e => by have := (World.ownsRow.lt hown _ e.symm).1; omega)
      have hsz : w.heap.size < wr.heap.size := Nat.lt_of_lt_of_le HZ2.out hgp.out.size
      have hx3 := Lib.hid (show wr.heap.size ≠ w.heap.size by omega)
      clear hm1 hnm hown hat hsv hky hd0 hd1 hdd hbs HG hgp ht0 ht1 hRk
      go_upto_region 5 with (fail)
      go_region_held3 (fun w' => w'.cell? ⟨wr.heap.size, 0, none⟩ = some (.int .i64 t) ∧ w'.cell? ⟨wr.heap.size, 1, none⟩ = some (.int .i64 id) ∧ w'.cell? ⟨wr.heap.size, 2, none⟩ = some (.int .i64 v) ∧
          (Instr.lookup 231 (.map (some w.heap.size)) (.int .i64 dd) false).run Tryz.prog w' = .ok (mapGet Tryz.prog 231 w.heap.size (.int .i64 dd) w') w' ∧
          (∀ v, (Instr.mapUpdate 231 (.map (some w.heap.size)) (.int .i64 dd) v).run Tryz.prog w' = .ok () (mapPut Tryz.prog 231 w.heap.size (.int .i64 dd) v w')) ∧ KeysOk Tryz.prog 3 w' w.heap.size)
        (first | assumption | exact HRS.out _ rfl | exact (RSd.kept HKY.out (HRS.out _ rfl) (World.grownBy_alloc _ _ none) (by simp) (by simp)).heap HKY.out rfl | exact RSd.kept HKY.out (by assumption) (World.grownBy_alloc _ _ none) (by simp) (by simp) | exact RSd.kept HKY.out (by assumption) hgrow hx1.out hx2.out | exact RSd.put HKY.out (by assumption) hx3.out _)
        (first
          | (refine stepApp1 tyRow _ (by rfl) (.tmp 52) (.tmp 54) (by rfl) (w.heap.size + 1) s l0 (t, id, v) (wr.heap.size + 1) (by rfl) (by rfl) #[.int .i64 t, .int .i64 id, .int .i64 v] rfl (by first | exact heap_alloc2_new .. | (simp; done)) (HS.out _ (by first | exact (((Below.refl _ _).alloc (Nat.le_refl _) _).drew).alloc (by simp) _ | exact (((Below.refl _ _).alloc (Nat.le_refl _) _).alloc (by simp) _).drew)) (by simp; omega) (by omega) ?_; intro g cap' w1 hown hbel hgrow hnewg)
          | (go_at_call 117; refine (HDay.out _).mono ?_; rintro e w9 ⟨rfl, rfl⟩))
      all_goals
        (have hgr0 : wr.grownBy w1 s.ownBlock := gb_trans (gb_of_below (by first | exact (((Below.refl _ _).alloc (Nat.le_refl _) _).drew).alloc (by simp) _ | exact (((Below.refl _ _).alloc (Nat.le_refl _) _).alloc (by simp) _).drew) s.ownBlock) hgrow
         obtain ⟨D', V', hG1⟩ := HSt.out w1 g cap' hgr0 (hnewg.imp (fun h => h) (fun h => by simp at h; omega)) hown
         have HG1 := Lib.hid hG1
         clear hgr0 hown hbel hgrow hnewg hG1 hgB hgC hgD e0 e1 e2
         go_wp2_with fail
         go_roundw
         case rel => exact ⟨k + 1, _, _, by go_num, by omega, HG1.out⟩
         case measure => simp [intOf]; omega)
    · have hke : n = k := by omega
      subst hke
      have hRn : R.take n = R := by rw [HN.out, List.take_length]
      have hgD := hgp.g
      rw [hRn] at hgD
      have HGD := Lib.hid hgD
      have HBw := Lib.hid (show Below w.heap.size w wr from HB2.out.trans (hgp.out.below (fun j hj e => by omega) (Nat.le_of_lt HZ2.out)))
      have hsz : w.heap.size < wr.heap.size := Nat.lt_of_lt_of_le HZ2.out hgp.out.size
      obtain ⟨nm, hm1, hnm⟩ := hgD.map
      have HM := Lib.hid hm1
      have HAT := Lib.hid hgD.at_
      have HKS := Lib.hid hgD.keys
      have HHas := Lib.hid hgD.has
      have d3 := (HBw.out.cell (p := ⟨X, 3, none⟩) hXl).trans c3
      clear hlt hk hRn HU1 HU rc1 rc2 hgp hgD HG hm1 hnm
      go_wp2_with fail
      refine wp_loop_rounds 1 ?_
      rw [rounds_succ]
      rename World => wE
      go_wp2_with (at_range; refine wpList_range_own _ rfl _ 231 rfl 3 105 keyedInt Tryz.underlying231 rawE w.heap.size nm D rfl HM.out ?_; intro w3 hrg3 hg3 hs3)
      go_frame
      have HBE := Lib.hid (show Below wE.heap.size wE w3 from ⟨hg3.os, hg3.tape, hg3.output, hg3.size, fun j hj => hg3.block j hj (by simp)⟩)
      have HI0 := Lib.hid (DayI.start hrg3 hrg3.lt hsz)
      clear hrg3 hg3 hs3 d3
      obtain ⟨rb, hrb⟩ : ∃ rb, rb = wE.heap.size := ⟨_, rfl⟩
      rw [← hrb] at HI0 HBE hsz ⊢
      have HRB := Lib.hid hrb
      clear hrb
      have hids := HDs.out.1
      have HIl := Lib.hid (fun (ids : List Int) (h1 : ids.Nodup) (h2 : ∀ d ∈ ids, Maps.has D (kI d) = true) => show ids.length ≤ 12 from Nat.le_trans (nodup_le h1 fun z hz => daysOf_mem.2 ((HHas.out z).1 (h2 z hz))) hids)
      clear hids
      go_loopw [10] (fun x wq => ∃ v ids cnt, x = v ∧ DayI w.heap.size rb nm D w3 ids cnt v wq) (fun _ wq => wq.rangeLeft w.heap.size rb)
      case atStart => exact ⟨_, _, _, rfl, HI0.out⟩
      case round =>
        clear HI0
        obtain ⟨v, ids, cnt, hv', hI⟩ := hrel
        have hv2 := hv'.symm
        clear hv'
        subst hv2
        have HI := Lib.hid hI
        have HMs := Lib.hid hI.rng.left
        have hil : ids.length ≤ 12 := HIl.out ids hI.nodup hI.has
        clear hI
        go_wp2_with (at_next; refine next_ids _ rfl (.tmp 81) rfl w.heap.size rb nm cnt D V ids rfl HI.out.rng HAT.out HKS.out ?_ ?_)
        · intro hdone
          have HSrt := Lib.hid (sortI_any (rb + 1) v ids wr HI.out.own (by omega))
          have hse := sorted_rise HI.out.nodup (daysOf_rise R) (fun z => ⟨fun hz => daysOf_mem.2 ((HHas.out z).1 (HI.out.has z hz)), fun hz => hdone z ((HHas.out z).2 (daysOf_mem.1 hz))⟩)
          rw [hse] at HSrt
          clear hdone hse HMs
          go_wp2_with fail
          refine HSrt.out.mono ?_
          rintro e w4 ⟨rfl, ho4, hg4⟩
          have HB4 := Lib.hid ((HBE.out.trans HI.out.be).grown hg4 (by have := HI.out.sz; omega) (fun j hj => by have := (World.ownsRow.lt HI.out.own j hj).1; omega))
          obtain ⟨da, dn, dc, rfl⟩ := ho4.isSl
          have hdn : dn = (daysOf R).length := (ho4.rowG.len).1
          obtain ⟨ds, hds⟩ : ∃ ds, ds = daysOf R := ⟨_, rfl⟩
          have HDS := Lib.hid (show ds.length ≤ 12 ∧ (∀ d ∈ ds, 0 ≤ d ∧ d < 100000) ∧ ds.Pairwise (· < ·) ∧ ∀ d ∈ ds, dayR R d ≠ [] by rw [hds]; exact ⟨HDs.out.1, HDs.out.2, daysOf_rise R, fun d hd => daysOf_mem.1 hd⟩)
          rw [← hds] at ho4 hdn
          have hdn12 : dn ≤ 12 := by have := HDS.out.1; omega
          have HDn := Lib.hid hdn
          have HO4 := Lib.hid ho4
          have HBw4 := Lib.hid (show Below w.heap.size w w4 from HBw.out.trans (HB4.out.mono (Nat.le_of_lt hsz)))
          have HGD4 := Lib.hid (GrpG.below HGD.out (show Below wE.heap.size wE w4 from by rw [← HRB.out]; exact HB4.out))
          have HIL := Lib.hid (show Calls Tryz.prog 36 #[.pointer (some ⟨I, 0, none⟩)] w4 (fun e w' => e = .returned (.int .i64 5) ∧ w4 = w') from idxLen_any (HDb.out.ix.below HBw4.out))
          have e2 := (HBw4.out.cell (p := ⟨X, 2, none⟩) hXl).trans c2
          clear hg4 HSrt HI hil hds hdn ho4 HB4 HM HAT HKS HHas HBE HIl HGD HDs HRB
          go_wp2_with fail
          refine HIL.out.mono ?_
          rintro e w5 ⟨rfl, rfl⟩
          clear e2 HIL
          go_wp2_with fail
          go_loopw [12, 97] (fun ev i wq => ∃ (j : Nat) (l : List Int) (v : Value), ev = v ∧ i = .int .i64 j ∧ j ≤ 5 ∧ OwnR 3 1 encI wq w4.heap.size v l ∧ l.length = j ∧ Below w4.heap.size w4 wq) (fun _ i _ => 5 - (intOf i).toNat)
          case atStart => exact ⟨0, [], _, rfl, rfl, by omega, OwnR.nil _ _, rfl, Below.refl _ _⟩
          case round =>
            obtain ⟨j, l, ev, hev0, rfl, hj, hev, hll, hbl⟩ := hrel
            have hev1 := hev0.symm
            clear hev0
            subst hev1
            have HB6 := Lib.hid hbl
            have HLl := Lib.hid hll
            have hl5 : l.length ≤ 5 := by omega
            clear hll
            by_cases hlt : j < 5
            · have hji : (j : Int) < 5 := by omega
              have HEv := Lib.hid hev
              have HA := Lib.hid (show Below wr.heap.size wr (wr.alloc (.cells #[.int .i64 (j : Int)] 3)) from (Below.refl _ _).alloc (Nat.le_refl _) _)
              have hsz4 := hbl.size
              clear hev hbl
              go_wp2_with (at_builtin; refine app1 tyInt _ rfl (.tmp 100) (.tmp 102) rfl w4.heap.size ev l (j : Int) wr.heap.size rfl (by rfl) #[.int .i64 (j : Int)] rfl (heap_alloc_new ..) (HEv.out.below HA.out) (by simp; omega) (by omega) ?_; intro g7 cap7 w7 hown7 hbl7 hg7; have HO7 := Lib.hid hown7; have HB7 := Lib.hid (((HB6.out.alloc HB6.out.size _)).trans hbl7); clear hown7 hbl7 hg7)
              go_roundw
              case rel => exact ⟨j + 1, _, _, rfl, by go_num, by omega, HO7.out, by rw [List.length_append, HLl.out]; rfl, HB7.out⟩
              case measure => simp [intOf]; omega
            · have hke : j = 5 := by omega
              subst hke
              clear hev HLl hl5 hlt hj
              rw [show ((5 : Nat) : Int) = 5 from rfl]
              have HBw6 := Lib.hid (show Below w.heap.size w wr from HBw4.out.trans (hbl.mono HBw4.out.size))
              have HX6 := Lib.hid ((HBw6.out.block X hXl).trans HDb.out.x)
              obtain ⟨-, q1, -, q3, q4, q5, q6, -⟩ := dbC_cells HX6.out
              have q7 : wr.cell? ⟨X, 7, none⟩ = some (.int .i64 0) := by rw [cell_of_row wr _ _ _ _ _ HX6.out]; rfl
              have q8 : wr.cell? ⟨X, 8, none⟩ = some (.int .i64 0) := by rw [cell_of_row wr _ _ _ _ _ HX6.out]; rfl
              have q9 : wr.cell? ⟨X, 9, none⟩ = some (.int .i64 0) := by rw [cell_of_row wr _ _ _ _ _ HX6.out]; rfl
              have HGD6 := Lib.hid (GrpG.below HGD4.out hbl)
              have HO6 := Lib.hid (HO4.out.below hbl)
              have HM2 := Lib.hid (heap2 wr (.cells (manC (.slice none 0 0) 0 0) 91) (.cells #[.pointer (some ⟨S, 0, none⟩), .int .i64 0, .slice none 0 0] 238))
              have HBL := Lib.hid (show Below wr.heap.size wr ((wr.alloc (.cells (manC (.slice none 0 0) 0 0) 91)).alloc (.cells #[.pointer (some ⟨S, 0, none⟩), .int .i64 0, .slice none 0 0] 238)) from ((Below.refl _ _).alloc (Nat.le_refl _) _).alloc (by simp) _)
              have hXl6 : X < wr.heap.size := Nat.lt_of_lt_of_le hXl HBw6.out.size
              unfold manC at HM2 HBL
              clear hbl HB6 HBw4 HGD4 HO4
              go_wp2_with fail
              generalize (wr.alloc (.cells #[.slice none 0 0, .int .i64 0, .int .i64 0, .bool false, .int .i64 0, .int .i64 0, .int .i64 0] 91)).alloc (.cells #[.pointer (some ⟨S, 0, none⟩), .int .i64 0, .slice none 0 0] 238) = wL at *
              clear q1 q3 q4 q5 q6 q7 q8 q9
              have HBwL := Lib.hid (show Below w.heap.size w wL from HBw6.out.trans (HBL.out.mono HBw6.out.size))
              have HGL := Lib.hid (GrpG.below HGD6.out HBL.out)
              have HOL := Lib.hid (HO6.out.below HBL.out)
              have hws : w.heap.size ≤ wr.heap.size := HBw6.out.size
              obtain ⟨M, hM⟩ : ∃ M, M = wr.heap.size := ⟨_, rfl⟩
              rw [← hM] at HM2 hws hXl6 ⊢
              have HF0 := Lib.hid (FlI.start (ds := ds) HDb.out.st HDb.out.fs HF.out HBwL.out HM2.out.1 HM2.out.2 (show w.heap.size ≤ M + 1 by omega))
              have HTy := Lib.hid (show FlT wL S M (M + 1) from ⟨(HDb.out.st.below HBwL.out).tyB, ⟨_, _, HM2.out.1⟩, ⟨_, _, HM2.out.2⟩⟩)
              have HMw := Lib.hid (show M < wL.heap.size ∧ ¬ FSb M from ⟨lt_of_heap HM2.out.1, fun e => by have := HDb.out.st.lt M e; omega⟩)
              clear HM2 HBL HGD6 HO6 HBw6 HX6 hM
              go_loopw [117] (fun x wq => ∃ k : Nat, x = .int .i64 k ∧ k ≤ dn ∧ FlI wL S M (M + 1) FSb was ds k wq) (fun x _ => dn - (intOf x).toNat)
              case atStart => exact ⟨0, rfl, Nat.zero_le _, HF0.out⟩
              case round =>
                clear HF0
                obtain ⟨k, rfl, hk, hFl⟩ := hrel
                by_cases hlt : k < dn
                · have hkd : k < ds.length := by rw [← HDn.out]; exact hlt
                  have hki : (k : Int) < (dn : Int) := by omega
                  obtain ⟨hout, ⟨u, hMb, hu⟩, FSb', vU, U, fk, hch, hw⟩ := hFl
                  have HOut := Lib.hid hout
                  have HMb := Lib.hid hMb
                  have HCh := Lib.hid hch
                  have HW := Lib.hid hw
                  have hdo := HOL.out.out hout (fun j hj => HTy.out.ne (HOL.out.tyB hj) (by decide) (by decide) (by decide))
                  obtain ⟨db, doff, rfl, hdb, hdc⟩ := hdo.rowG.at_ (fun _ => rfl) 0 hkd
                  have g0 := hdc 0 (by omega)
                  simp only [encI, Nat.mul_one, Nat.add_zero, List.getElem?_cons_zero] at g0
                  obtain ⟨day, hday⟩ : ∃ day, day = ds.getD k 0 := ⟨_, rfl⟩
                  have HDay := Lib.hid hday
                  rw [← hday] at g0
                  have hmem : day ∈ ds := by rw [hday]; exact getD_mem' 0 hkd
                  obtain ⟨hd0, hd1⟩ := HDS.out.2.1 day hmem
                  have hne := HDS.out.2.2.2 day hmem
                  have hP := day_lt HDS.out.2.2.1 hkd
                  rw [← hday] at hP
                  have hPl : (ptL (ds.take k)).length = k := ptL_take_len (Nat.le_of_lt hkd)
                  obtain ⟨P, hPe⟩ : ∃ P, P = ptL (ds.take k) := ⟨_, rfl⟩
                  have HPe := Lib.hid hPe
                  rw [← hPe] at hP hPl hu
                  have HUo := Lib.hid hu
                  have HP := Lib.hid hP
                  have HPl := Lib.hid hPl
                  have hk12 : k < 12 := by omega
                  have HFd := Lib.hid (find_no u k 0 P day wr hu.rowG (fun x hx => by have := hP x hx; omega) (by omega))
                  unfold manV at HFd
                  obtain ⟨m0, m1, m2, m3, m4, m5, m6, -⟩ := hMb.cells
                  obtain ⟨nm', hm', -⟩ := HGL.out.map
                  have hmr : OMap Tryz.prog 3 wr w.heap.size nm' D := OMap.stay hm' (hout.block _ (World.ownsMap.lt hm') (HTy.out.neMap (OMap.mapB hm')))
                  have hvd := (HGL.out.own day).out hout (fun j hj => HTy.out.ne ((HGL.out.own day).tyB hj) (by decide) (by decide) (by decide))
                  have HLk := Lib.hid (fun (W : World) (hb : Below wr.heap.size wr W) => look_raw (hmr.below hb) keyedInt Tryz.underlying231 (zeroRws W) (keyI hd0 hd1) (HGL.out.at_ day))
                  have HRD := Lib.hid (HR.out.day day)
                  have HVd := Lib.hid (show RowG 3 encRw wr (V day) (dayR R day) from hvd.rowG)
                  clear hmr hvd hm' hdo hdc hP hPl hPe hu hMb hout hch hw hmem hday
                  generalize V day = vd at *
                  generalize dayR R day = Rd at *
                  have HR2 := Lib.hid HRD.out.again
                  have h2ne := HRD.out.again_ne hne
                  obtain ⟨R2, hR2e⟩ : ∃ R2, R2 = rowsOf (putL [] Rd) := ⟨_, rfl⟩
                  have HR2e := Lib.hid hR2e
                  rw [← hR2e] at HR2 h2ne
                  clear hR2e
                  obtain ⟨m, hm⟩ : ∃ m, m = R2.length := ⟨_, rfl⟩
                  have hm0 : 0 < m := by rw [hm]; exact List.length_pos_iff.2 h2ne
                  have HM2 := Lib.hid hm
                  have c1L := (HBwL.out.cell (p := ⟨X, 1, none⟩) hXl).trans c1
                  have x1 := HOut.out.cellE c1L (HTy.out.ne (show TyB wL X 95 from ⟨_, _, (HBwL.out.block X hXl).trans HDb.out.x⟩) (by decide) (by decide) (by decide))
                  have hXlr := World.block_lt_of_cell? wr _ x1
                  clear hm h2ne c1L hne
                  go_wp2_with fail
                  refine HFd.out.mono ?_
                  rintro e w7 ⟨rfl, hb7⟩
                  have HB8 := Lib.hid (hb7.trans (((Below.refl w7.heap.size w7).alloc (Nat.le_refl _) (.cells #[.int .i64 0, .int .i64 0, .string (bs [])] 139)).mono hb7.size))
                  have HPB := Lib.hid (heap_alloc_new w7 (.cells #[.int .i64 0, .int .i64 0, .string (bs [])] 139))
                  clear hb7 HFd g0 m0 m1 m2 m3 m4 m5 m6 hdb
                  go_upto_region 35 with (fail)
                  generalize w7.alloc (.cells #[.int .i64 0, .int .i64 0, .string (bs [])] 139) = w8 at *
                  obtain ⟨PB, hPB⟩ : ∃ PB, PB = w7.heap.size := ⟨_, rfl⟩
                  rw [← hPB] at HPB ⊢
                  clear hPB
                  have hX8 := Nat.lt_of_lt_of_le hXlr HB8.out.size
                  refine region35 (b := w.heap.size) (day := day) (vd := vd) (Rd := Rd) (ts := ts) ?r35 ?dp35 (by kernel_rfl) (by simp) rfl rfl rfl (fun W hb => HLk.out W (HB8.out.trans (hb.mono HB8.out.size))) (HVd.out.below HB8.out) HRD.out hT12 ?_
                  case r35 => exact ⟨rfl, ⟨_, rfl, rfl, rfl, rfl⟩, ⟨_, rfl, rfl, rfl, rfl⟩, ⟨_, rfl, rfl, rfl, rfl⟩, ⟨_, rfl, rfl, rfl, rfl⟩, ⟨_, rfl, rfl, rfl, rfl⟩, ⟨_, rfl, rfl, rfl, rfl⟩, ⟨_, rfl, rfl, rfl, rfl⟩, ⟨_, rfl, rfl, rfl, rfl⟩⟩
                  case dp35 => exact depL_ready (D := [[], [0], [], [], [2, 3], [1, 4], [5], [6]]) (by kernel_rfl)
                  intro V5 wc hb9 hr9
                  rw [← HR2e.out] at hr9
                  have hr9' := hr9
                  obtain ⟨a9, c9, hv9, -⟩ := hr9'
                  rw [← HM2.out] at hv9
                  rw [hv9] at hr9
                  rw [setAl35, hv9]
                  have HR9 := Lib.hid hr9
                  have HB9 := Lib.hid (HB8.out.trans (hb9.mono HB8.out.size))
                  have HPB9 := Lib.hid ((hb9.block PB (lt_of_heap HPB.out)).trans HPB.out)
                  obtain ⟨dt, hdt, hWr⟩ := HR2.out.write hT12 wc _ hr9
                  have HWr := Lib.hid hWr
                  have p1 : wc.cell? ⟨PB, 1, none⟩ = some (.int .i64 0) := (pt_cells HPB9.out).2.1
                  have hPl9 := lt_of_heap HPB9.out
                  clear hv9 hr9 hb9 hWr HLk HVd HB8 HPB HRD
                  generalize V5 0 = v50 at *
                  generalize V5 1 = v51 at *
                  generalize V5 2 = v52 at *
                  generalize V5 3 = v53 at *
                  generalize V5 4 = v54 at *
                  generalize V5 5 = v55 at *
                  generalize V5 6 = v56 at *
                  go_frame
                  go_wp2_with fail
                  refine HWr.out.mono ?_
                  rintro e w10 ⟨rfl, hb10⟩
                  have HB10 := Lib.hid (HB9.out.trans (hb10.mono HB9.out.size))
                  have HPB10 := Lib.hid ((hb10.block PB (lt_of_heap HPB9.out)).trans HPB9.out)
                  obtain ⟨-, p11, p12⟩ := pt_cells HPB10.out
                  have x11 := (HB10.out.cell (p := ⟨X, 1, none⟩) hXlr).trans x1
                  have hPl10 := lt_of_heap HPB10.out
                  clear hb10 HB9 HPB9 p1 hPl9 HWr
                  go_upto_region 40 with (fail)
                  refine region40 (X := X) (S := S) (PB := PB) ?r40 (by kernel_rfl) (by kernel_rfl) (by simp) rfl rfl x11 p12 (fun W hW => read_none (HCh.out.st.below HB10.out) HCh.out.fs hW) ?_
                  case r40 => exact ⟨rfl, ⟨_, rfl, rfl, rfl, rfl⟩, ⟨_, rfl, rfl, rfl, rfl⟩, ⟨_, rfl, rfl, rfl, rfl⟩, ⟨_, rfl, rfl, rfl, rfl⟩, ⟨_, rfl, rfl, rfl, rfl⟩, ⟨_, rfl, rfl, rfl, rfl⟩, ⟨_, rfl, rfl, rfl, rfl⟩, ⟨_, rfl, rfl, rfl, rfl⟩, ⟨_, rfl, rfl, rfl, rfl⟩, ⟨_, rfl, rfl, rfl, rfl⟩, ⟨_, rfl, rfl, rfl, rfl⟩, ⟨_, rfl, rfl, rfl, rfl⟩⟩
                  intro w11 hb11 hh11
                  clear hh11
                  rw [setAl40]
                  have HB11 := Lib.hid (HB10.out.trans (hb11.mono HB10.out.size))
                  have HPB11 := Lib.hid ((hb11.block PB (lt_of_heap HPB10.out)).trans HPB10.out)
                  have p21 := (pt_cells HPB11.out).2.1
                  have hPl11 := lt_of_heap HPB11.out
                  have HED := Lib.hid (heap_alloc_new w11 (.cells #[.int .i64 0, .int .i64 day, .int .i64 0, .int .i64 0] 241))
                  have HBE := Lib.hid (HB11.out.trans (((Below.refl w11.heap.size w11).alloc (Nat.le_refl _) (.cells #[.int .i64 0, .int .i64 day, .int .i64 0, .int .i64 0] 241)).mono HB11.out.size))
                  have hm1 : ¬ ((m : Int) = 0) := by omega
                  have HAp := Lib.hid (fun (W : World) (hb : Below wr.heap.size wr W) => apply0_any u P k 0 day W (HUo.out.rowG.below hb) HP.out hk12 HPl.out hd0 hd1)
                  unfold App0 manV at HAp
                  clear hb11 HB10 HPB10 p11 p12 x11 hPl10
                  go_frame
                  go_upto_region 46 with (fail)
                  generalize w11.alloc (.cells #[.int .i64 0, .int .i64 day, .int .i64 0, .int .i64 0] 241) = w12 at *
                  obtain ⟨EB, hEB⟩ : ∃ EB, EB = w11.heap.size := ⟨_, rfl⟩
                  rw [← hEB] at HED ⊢
                  obtain ⟨t0, t1, t2, t3⟩ := ed_cells HED.out
                  have hM12 := Lib.hid ((HBE.out.block M (lt_of_heap HMb.out)).trans HMb.out)
                  obtain ⟨m0, m1, m2, m3, m4, m5, m6, -⟩ := ManB.cells (show ManB M u k w12 from hM12.out)
                  clear p21 hPl11 HB11 HPB11 hEB
                  go_wp2_with fail
                  refine (HAp.out w12 HBE.out).mono ?_
                  rintro e w13 ⟨v13, rfl, ho13, hb13⟩
                  obtain ⟨va, vn, vc, rfl⟩ := ho13.isSl
                  have HO13 := Lib.hid ho13
                  have HB13 := Lib.hid (HBE.out.trans (hb13.mono HBE.out.size))
                  have HQB := Lib.hid (heap_alloc_new w13 (.cells #[.slice va vn vc, .int .i64 ((k : Int) + 1), .int .i64 0, .bool false, .int .i64 0, .int .i64 0, .int .i64 0] 91))
                  have HA13 := Lib.hid (show Below w13.heap.size w13 (w13.alloc (.cells #[.slice va vn vc, .int .i64 ((k : Int) + 1), .int .i64 0, .bool false, .int .i64 0, .int .i64 0, .int .i64 0] 91)) from (Below.refl _ _).alloc (Nat.le_refl _) _)
                  have HFl := Lib.hid (fun (W : World) (hb : Below w13.heap.size w13 W) => find_last (.slice va vn vc) P ((k : Int) + 1) 0 day (fileN k) W (ho13.rowG.below hb) HP.out (by have := HPl.out; omega))
                  unfold manV at HFl
                  clear ho13 hb13 m0 m1 m2 m3 m4 m5 m6 t0 t1 t2 t3 HAp HED HBE hM12
                  go_upto_region 50 with (fail)
                  generalize w13.alloc (.cells #[.slice va vn vc, .int .i64 ((k : Int) + 1), .int .i64 0, .bool false, .int .i64 0, .int .i64 0, .int .i64 0] 91) = w14 at *
                  obtain ⟨QB, hQB⟩ : ∃ QB, QB = w13.heap.size := ⟨_, rfl⟩
                  rw [← hQB] at HQB ⊢
                  obtain ⟨y0, y1, y2, y3, y4, y5, y6⟩ := st_cells HQB.out
                  clear hQB
                  go_wp2_with fail
                  refine (HFl.out w14 HA13.out).mono ?_
                  rintro e w15 ⟨rfl, hb15⟩
                  have HB14 := Lib.hid (HB13.out.trans (HA13.out.mono HB13.out.size))
                  have HA15 := Lib.hid (show Below w14.heap.size w14 (w15.alloc (.cells #[.int .i64 day, .int .i64 0, .string (bs (fileN k))] 139)) from hb15.alloc hb15.size _)
                  have HFB := Lib.hid (heap_alloc_new w15 (.cells #[.int .i64 day, .int .i64 0, .string (bs (fileN k))] 139))
                  clear hb15 y0 y1 y2 y3 y4 y5 y6 HFl
                  go_upto_region 52 with (fail)
                  generalize w15.alloc (.cells #[.int .i64 day, .int .i64 0, .string (bs (fileN k))] 139) = w16 at *
                  obtain ⟨FB, hFB⟩ : ∃ FB, FB = w15.heap.size := ⟨_, rfl⟩
                  rw [← hFB] at HFB ⊢
                  obtain ⟨-, -, f2⟩ := pt_cells HFB.out
                  have HB16 := Lib.hid (HB14.out.trans (HA15.out.mono HB14.out.size))
                  have HQB16 := Lib.hid ((HA15.out.block QB (lt_of_heap HQB.out)).trans HQB.out)
                  have HO16 := Lib.hid (HO13.out.below (HA13.out.trans (HA15.out.mono HA13.out.size)))
                  have HM16 := Lib.hid ((HB16.out.block M (lt_of_heap HMb.out)).trans HMb.out)
                  have HCh16 := Lib.hid (HCh.out.below HB16.out)
                  have HWt := Lib.hid (HCh16.out.write (by omega) (fileN_in hk12) (show dt.length ≤ limF (fileN k) by unfold limF; rw [if_neg (fileN_wal hk12)]; exact hdt))
                  clear hFB HQB HFB HA13 HA15 HB13 HB14 HO13
                  go_wp2_with fail
                  refine HWt.out.mono ?_
                  rintro e w17 hs17
                  have he17 := hs17.1
                  subst he17
                  have HS17 := Lib.hid hs17
                  have HQB17 := Lib.hid ((hs17.keep HCh16.out ⟨_, _, HQB16.out⟩ (by decide) (by decide) (by decide)).trans HQB16.out)
                  have HM17 := Lib.hid ((hs17.keep HCh16.out ⟨_, _, HM16.out⟩ (by decide) (by decide) (by decide)).trans HM16.out)
                  obtain ⟨y0, y1, y2, y3, y4, y5, y6⟩ := st_cells HQB17.out
                  obtain ⟨m0, m1, m2, m3, m4, m5, m6, mf⟩ := ManB.cells (show ManB M u k w17 from HM17.out)
                  have HNx := Lib.hid (show FlI wL S M (M + 1) FSb was ds (k + 1) (set7 w17 M (.slice va vn vc) (.int .i64 ((k : Int) + 1)) (.int .i64 0) (.bool false) (.int .i64 0) (.int .i64 0) (.int .i64 0)) from
                    FlI.step HOut.out HMb.out HMw.out.1 HMw.out.2 HCh.out HW.out hkd hk12 HB16.out (by rw [← HPe.out, ← HDay.out]; exact HO16.out.baseLe (Nat.zero_le _)) HS17.out)
                  unfold set7 at HNx
                  clear hs17 f2 HWt
                  go_wp2_with fail
                  go_roundw
                  case rel => exact ⟨k + 1, by go_num, by omega, HNx.out⟩
                  case measure => simp [intOf]; omega
                · have hke : dn = k := by omega
                  subst hke
                  have hFl' : FlI wL S M (M + 1) FSb was ds ds.length wr := by rw [← HDn.out]; exact hFl
                  obtain ⟨u, fE, hE, hfE⟩ := FlE.start hFl' HBwL.out hws (show w.heap.size ≤ M + 1 by omega)
                  obtain ⟨ua, un, uc, rfl⟩ := hE.own.isSl
                  have HE := Lib.hid hE
                  have HfE := Lib.hid hfE
                  have hSX : ¬ X = S := fun e => HDb.out.sX (by rw [e]; exact HDb.out.st.s)
                  have x12 := hE.out.cellE c12 hSX
                  have hMl := lt_of_heap hE.man
                  have hXlr : X < wr.heap.size := by omega
                  have HMd := Lib.hid (show ManB M (.slice ua un uc) dn wr by rw [HDn.out]; exact hE.man)
                  have HAp := Lib.hid (fun (W : World) (hb : Below wr.heap.size wr W) => apply2_any (.slice ua un uc) (ptL ds) dn W (hE.own.rowG.below hb) (ptL_rise HDS.out.2.2.1) (by omega) (by rw [ptL_len]; exact HDn.out.symm))
                  clear hFl hFl' hE hfE hk hlt HOL HGL
                  go_upto_region 57 with (fail)
                  refine region57 (X := X) (M := M) (n := dn) (u := .slice ua un uc) ?r57 (by kernel_rfl) (by kernel_rfl) (by simp) rfl rfl HMd.out x12 HAp.out ?_
                  case r57 => exact ⟨rfl, ⟨_, rfl, rfl, rfl, rfl⟩, ⟨_, rfl, rfl, rfl, rfl⟩, ⟨_, rfl, rfl, rfl, rfl⟩, ⟨_, rfl, rfl, rfl, rfl⟩, ⟨_, rfl, rfl, rfl, rfl⟩, ⟨_, rfl, rfl, rfl, rfl⟩, ⟨_, rfl, rfl, rfl, rfl⟩, ⟨_, rfl, rfl, rfl, rfl⟩, ⟨_, rfl, rfl, rfl, rfl⟩, ⟨_, rfl, rfl, rfl, rfl⟩, ⟨_, rfl, rfl, rfl, rfl⟩, ⟨_, rfl, rfl, rfl, rfl⟩, ⟨_, rfl, rfl, rfl, rfl⟩⟩
                  intro B57 wc hbc
                  rw [setAl57]
                  go_frame
                  have HE2 := Lib.hid (HE.out.below hbc)
                  clear x12 hMl hXlr HAp HE hbc HMd
                  obtain ⟨m0, m1, m2, m3, m4, m5, m6, -⟩ := HE2.out.man.cells
                  rw [← HDn.out] at m1
                  have HPut := Lib.hid (HE2.out.put (by have := HDS.out.1; omega) HDS.out.2.2.1 HDS.out.2.1 HDS.out.1)
                  unfold manV at HPut
                  rw [← HDn.out] at HPut
                  go_wp2_with fail
                  refine HPut.out.mono ?_
                  rintro e w8 ⟨rfl, t8, hE8⟩
                  have HE8 := Lib.hid hE8
                  have x2 := hE8.out.cellE c2 hSX
                  have HEnc := Lib.hid (idxEnc_any FI I 5 w8 (HDb.out.ix.out hE8.out (fun k hk e => HDb.out.si k (by rw [e]; exact HDb.out.st.s) hk)) (by omega))
                  clear m0 m1 m2 m3 m4 m5 m6 HPut hE8 HE2
                  go_wp2_with fail
                  refine HEnc.out.mono ?_
                  rintro e w9 ⟨t9, rfl, ht9, hb9⟩
                  have HW9 := Lib.hid ((HE8.out.below hb9).write (nm := idxNm) (x := t9) (by omega) idx_in (Nat.le_trans ht9 (by decide)))
                  unfold idxNm at HW9
                  clear ht9 hb9 HE8 HEnc x2
                  go_wp2_with fail
                  refine HW9.out.mono ?_
                  rintro e w10 ⟨rfl, hE10⟩
                  have HDr := Lib.hid (hE10.drop (nm := walNm) (x := was) (by omega) wal_in (by rw [← HfE.out]; rfl))
                  unfold walNm at HDr
                  clear hE10 HW9
                  go_wp2_with fail
                  refine HDr.out.mono ?_
                  rintro e w11 ⟨rfl, hE11⟩
                  have HE11 := Lib.hid hE11
                  have HX11 := Lib.hid ((hE11.out.block X hXl hSX).trans HDb.out.x)
                  obtain ⟨-, -, -, x3, x4, x5, x6, x10, x11, -, -, x14, fX⟩ := dbC_cells HX11.out
                  have x7 : w11.cell? ⟨X, 7, none⟩ = some (.int .i64 0) := by rw [cell_of_row w11 _ _ _ _ _ HX11.out]; rfl
                  have x8 : w11.cell? ⟨X, 8, none⟩ = some (.int .i64 0) := by rw [cell_of_row w11 _ _ _ _ _ HX11.out]; rfl
                  have x9 : w11.cell? ⟨X, 9, none⟩ = some (.int .i64 0) := by rw [cell_of_row w11 _ _ _ _ _ HX11.out]; rfl
                  obtain ⟨m0, m1, m2, m3, m4, m5, m6, -⟩ := hE11.man.cells
                  rw [← HDn.out] at m1
                  have k1 : w11.cell? ⟨M + 1, 1, none⟩ = some (.int .i64 0) := by
                    obtain ⟨_, _, _, hc⟩ := hE11.ch
                    rw [cell_of_row w11 _ _ _ _ _ hc.ch.c]; rfl
                  have hXM : ¬ X = M := by omega
                  have hMX : ¬ M = X := by omega
                  have hdl := HDn.out
                  clear hE11 HDr
                  go_wp2_with fail
                  go_ret
                  subst hdl
                  exact ⟨rfl, fl_end HDb.out HE11.out (by simp [delFs, walNm]) HDS.out.2.1 HDS.out.1 ((endX_out ..).same (Out.setCell _ ⟨X, 14, none⟩ _)) (set14_heap (endX_heap HX11.out (.slice ua un uc)))⟩
        · intro z w5 cnt5 hz hh h0 h1 hr5 hlt5 hg5 hs5 hen5
          have HNx := Lib.hid (HI.out.next hr5 hg5)
          have HZ := Lib.hid hz
          have HH := Lib.hid hh
          have HLt := Lib.hid hlt5
          have hrl := hr5.lt.1
          have HA5 := Lib.hid (show Below w5.heap.size w5 (w5.alloc (.cells #[.int .i64 z] 3)) from (Below.refl _ _).alloc (Nat.le_refl _) _)
          clear hz hh hr5 hlt5 hg5 hs5
          go_wp2_with (at_builtin; refine app1 tyInt _ rfl (.tmp 86) (.tmp 88) rfl (rb + 1) v ids z w5.heap.size rfl (by rfl) #[.int .i64 z] rfl (heap_alloc_new ..) (HNx.out.2.1.below HA5.out) (by simp; omega) (by omega) ?_; intro g7 cap7 w7 hown7 hbl7 hg7; have HO7 := Lib.hid hown7; have HG7 := Lib.hid hg7; clear hown7 hbl7 hg7)
          have HN7 := Lib.hid (HI.out.more HZ.out HH.out HNx.out.1 HNx.out.2.2.1 HNx.out.2.2.2 HNx.out.2.1 HA5.out HG7.out HO7.out)
          go_roundw
          case rel => exact ⟨_, _, _, rfl, HN7.out⟩
          case measure => rw [HN7.out.rng.left, HMs.out]; exact HLt.out

end Go.Proofs.YtheenlomlmbjaaaGreatDoor
