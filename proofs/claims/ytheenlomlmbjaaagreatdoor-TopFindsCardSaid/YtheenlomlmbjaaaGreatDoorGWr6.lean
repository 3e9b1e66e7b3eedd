/-
  engine.logged.
-/
import Derived.Test.YtheenlomlmbjaaaGreatDoorGChgD
import Derived.Test.YtheenlomlmbjaaaGreatDoorGIn
import Derived.Test.YtheenlomlmbjaaaGreatDoorGOpn1
set_option linter.unusedSimpArgs false
set_option linter.unusedVariables false
namespace Go.Proofs.YtheenlomlmbjaaaGreatDoor
open Go.RowKit Go.Maps

set_option maxRecDepth 100000 in
theorem logged_any (X S : Nat) (f : Fs) (w : World) (hx : w.cell? ⟨X, 1, none⟩ = some (.pointer (some ⟨S, 0, none⟩))) (hs : StoreOk w S f 15) :
    Calls Tryz.prog 62 #[.pointer (some ⟨X, 0, none⟩)] w fun e w' => e = .returned (.bool (f walNm).isSome) ∧ w = w' := by
  cases hf : f walNm with
  | some d =>
    have HR := Lib.hid (readF_yes hs (nm := walNm) (d := d) (by decide) hf)
    unfold walNm at HR
    clear hs
    go_enter Tryz.func62, Tryz.ntmps62
    go_wp2_with fail
    refine HR.out.mono ?_
    rintro e w1 ⟨rfl, rfl⟩
    go_wp2_with fail
    go_ret
    exact ⟨rfl, rfl⟩
  | none =>
    have HR := Lib.hid (readF_no hs (nm := walNm) (by decide) hf)
    unfold walNm at HR
    clear hs
    go_enter Tryz.func62, Tryz.ntmps62
    go_wp2_with fail
    refine HR.out.mono ?_
    rintro e w1 ⟨rfl, rfl⟩
    go_wp2_with fail
    go_ret
    exact ⟨rfl, rfl⟩

end Go.Proofs.YtheenlomlmbjaaaGreatDoor

namespace Go.Proofs.YtheenlomlmbjaaaGreatDoor
open Go.RowKit Go.Maps

set_option maxRecDepth 100000 in
set_option maxHeartbeats 1000000 in
theorem quiet_any (X S p : Nat) (pv : Value) (P : List Pt) (f : Fs) (w : World) (h : QSt w X S p pv P f) :
    Calls Tryz.prog 23 #[.pointer (some ⟨X, 0, none⟩)] w fun e w' => e = .returned (.bool (!(f walNm).isSome)) ∧ Below w.heap.size w w' := by
  have HQ := Lib.hid h
  have HW := Lib.hid (wish_any X p pv P w h.c3 h.c13 h.po h.row h.pt h.len)
  clear h
  go_enter Tryz.func23, Tryz.ntmps23
  go_wp2_with fail
  refine HW.out.mono ?_
  rintro e w1 ⟨rfl, hb1⟩
  have HB1 := Lib.hid hb1
  have HQ1 := Lib.hid (HQ.out.below hb1)
  have HL := Lib.hid (logged_any X S f w1 HQ1.out.c1 HQ1.out.st)
  have c6 := HQ1.out.c6
  have hXl := World.block_lt_of_cell? w1 _ c6
  clear hb1 HW
  go_wp2_with fail
  refine HL.out.mono ?_
  rintro e w2 ⟨rfl, rfl⟩
  have HE := Lib.hid (rfl : (f walNm).isSome = (f walNm).isSome)
  clear HL
  generalize hb : (f walNm).isSome = b
  have Hb := Lib.hid hb
  clear hb HE
  cases b
  · go_wp2_with fail
    go_ret
    exact ⟨by rw [Hb.out]; rfl, HB1.out⟩
  · go_wp2_with fail
    go_ret
    exact ⟨by rw [Hb.out]; rfl, HB1.out⟩

end Go.Proofs.YtheenlomlmbjaaaGreatDoor

namespace Go.Proofs.YtheenlomlmbjaaaGreatDoor
open Go.RowKit Go.Maps

set_option maxRecDepth 100000 in
set_option maxHeartbeats 1000000 in
theorem step_any (base X S p : Nat) (pv : Value) (P : List Pt) (f : Fs) (w : World) (h : QSt w X S p pv P f) (hf : (f walNm).isSome = true) (hb0 : base ≤ w.heap.size) (hfl : ∀ W, Below w.heap.size w W → FlushSaid base X S p W) :
    Calls Tryz.prog 24 #[.pointer (some ⟨X, 0, none⟩)] w fun e w' => e = .returned (.tuple #[.bool true, .int .i64 0]) ∧ FlushA base X S p w w' := by
  have HQ := Lib.hid h
  have HF := Lib.hid hfl
  have Hf := Lib.hid hf
  have HW := Lib.hid (wish_any X p pv P w h.c3 h.c13 h.po h.row h.pt h.len)
  clear h hfl hf
  go_enter Tryz.func24, Tryz.ntmps24
  go_wp2_with fail
  refine HW.out.mono ?_
  rintro e w1 ⟨rfl, hb1⟩
  have HB1 := Lib.hid hb1
  have HQ1 := Lib.hid (HQ.out.below hb1)
  have HL := Lib.hid (logged_any X S f w1 HQ1.out.c1 HQ1.out.st)
  rw [Hf.out] at HL
  have HF1 := Lib.hid (HF.out w1 hb1)
  unfold FlushSaid at HF1
  clear hb1 HW HF
  go_wp2_with fail
  refine HL.out.mono ?_
  rintro e w2 ⟨rfl, rfl⟩
  go_wp2_with fail
  refine HF1.out.mono ?_
  rintro e w3 ⟨rfl, h3⟩
  have HEnd := Lib.hid (show FlushA base X S p w w3 from ⟨h3.1, (HB1.out.mono hb0).trans h3.2⟩)
  clear h3
  go_wp2_with fail
  go_ret2
  exact ⟨rfl, HEnd.out⟩

set_option maxRecDepth 100000 in
set_option maxHeartbeats 1000000 in
theorem rest_any (base X S p : Nat) (pv : Value) (P : List Pt) (f : Fs) (w : World) (h : QSt w X S p pv P f) (hf : (f walNm).isSome = true) (hb0 : base ≤ w.heap.size) (hfl : ∀ W, Below w.heap.size w W → FlushSaid base X S p W) :
    Calls Tryz.prog 12 #[.pointer (some ⟨X, 0, none⟩)] w fun e w' => e = .returned (.bool true) ∧ Below base w w' := by
  have HQ := Lib.hid h
  have HF := Lib.hid hfl
  have Hf := Lib.hid hf
  clear h hfl hf
  have HQ1 := Lib.hid (quiet_any X S p pv P f w HQ.out)
  rw [Hf.out] at HQ1
  go_enter Tryz.func12, Tryz.ntmps12
  go_wp2_with fail
  refine wp_loop_rounds 2 ?_
  rw [rounds_succ]
  go_wp2_with fail
  refine HQ1.out.mono ?_
  rintro e w1 ⟨rfl, hb1⟩
  have HB1 := Lib.hid hb1
  have HSt := Lib.hid (step_any base X S p pv P f w1 (HQ.out.below hb1) Hf.out (Nat.le_trans hb0 hb1.size) (fun W hW => HF.out W (hb1.trans (hW.mono hb1.size))))
  clear hb1 HQ1
  go_wp2_with fail
  refine HSt.out.mono ?_
  rintro e w2 ⟨rfl, ⟨pv2, P2, f2, hq2, hf2⟩, hb2⟩
  have HB2 := Lib.hid ((HB1.out.mono hb0).trans hb2)
  have HQ2 := Lib.hid hq2
  have HQ3 := Lib.hid (quiet_any X S p pv2 P2 f2 w2 hq2)
  rw [hf2] at HQ3
  have Hf2 := Lib.hid hf2
  clear hq2 hf2 hb2 HSt
  go_wp2_with fail
  rw [rounds_succ]
  go_wp2_with fail
  refine HQ3.out.mono ?_
  rintro e w3 ⟨rfl, hb3⟩
  have HB3 := Lib.hid (HB2.out.trans (hb3.mono (Nat.le_trans hb0 HB2.out.size)))
  have HQ4 := Lib.hid (quiet_any X S p pv2 P2 f2 w3 (HQ2.out.below hb3))
  rw [Hf2.out] at HQ4
  clear hb3 HQ3
  go_wp2_with fail
  refine HQ4.out.mono ?_
  rintro e w4 ⟨rfl, hb4⟩
  have HEnd := Lib.hid (HB3.out.trans (hb4.mono (Nat.le_trans hb0 HB3.out.size)))
  go_wp2_with fail
  go_ret
  exact ⟨rfl, HEnd.out⟩

end Go.Proofs.YtheenlomlmbjaaaGreatDoor

namespace Go.Proofs.YtheenlomlmbjaaaGreatDoor
open Go.RowKit Go.Maps

theorem lenM_run {w : World} {b n : Nat} {D : DataW Value} (h : OMap Tryz.prog 9 w b n D) : ∃ c : Nat, c = Maps.size D ∧ (Builtin.len_ #[65] 3 #[.map (some b)]).run Tryz.prog w = .ok (.int .i64 (c : Int)) w := by
  obtain ⟨es, clock, hb, _, hs, rfl⟩ := h
  exact ⟨es.size, by rw [Maps.size_eq, length_sorted]; simp, run_len_map w _ _ b es clock (by kernel_rfl) hb⟩
theorem keepW2 {w8 w' w'' : World} {K L i j : Nat} {v u : Value} (h : w'.cell? ⟨K, i, none⟩ = some v ∧ w'.cell? ⟨L, j, none⟩ = some u ∧ Below w8.heap.size w8 w') (hb : Below w'.heap.size w' w'') : w''.cell? ⟨K, i, none⟩ = some v ∧ w''.cell? ⟨L, j, none⟩ = some u ∧ Below w8.heap.size w8 w'' :=
  ⟨(hb.cell (p := ⟨K, i, none⟩) (World.block_lt_of_cell? w' _ h.1)).trans h.1, (hb.cell (p := ⟨L, j, none⟩) (World.block_lt_of_cell? w' _ h.2.1)).trans h.2.1, h.2.2.trans (hb.mono h.2.2.size)⟩
structure WrtI (w : World) (t : Int) (Rb fm : Nat) (k : Nat) (ru : Value) (wq : World) : Prop where
  box : wq.heap[Rb]? = some (.cells #[.int .i64 1, .slice none 0 0, ru, .slice none 0 0, .int .i64 0] 107 (0, 0))
  own : OwnR 119 3 encRw wq (Rb + 1) ru ((rowsAt t).take k)
  mp : wq.heap[fm]? = some (.map #[] 0)
  be : Below w.heap.size w wq
  lo : w.heap.size ≤ fm ∧ fm < Rb
theorem WrtI.below {w : World} {t : Int} {Rb fm k : Nat} {ru : Value} {wq w' : World} (h : WrtI w t Rb fm k ru wq) (hb : Below wq.heap.size wq w') : WrtI w t Rb fm k ru w' :=
  ⟨(hb.block _ (lt_of_heap h.box)).trans h.box, h.own.below hb, (hb.block _ (lt_of_heap h.mp)).trans h.mp, h.be.trans (hb.mono h.be.size), h.lo⟩
set_option maxRecDepth 100000 in
set_option maxHeartbeats 8000000 in
theorem writeA_any (base X d S I p : Nat) (hv : Value) (FSb FI FP FH : Bl) (was : Bytes) (H : List Ser) (ts : List Int) (t : Int) (pv : Value) (w : World) (hD : Db base w X d S I p hv FSb FI FP FH (Fw was) 5 H) (hH : HOk ts H) (hl : ts.length < 12) (hw : was.length ≤ 195 + 182 * ts.length)
    (hp : PtsV w pv t 5) (h0 : 0 ≤ t) (h1 : t ≤ 3072) (hst : StepsOk w 0) (hb0 : 0 < base) :
    Calls Tryz.prog 14 #[.pointer (some ⟨X, 0, none⟩), pv] w (WriteA base X d S I p FP (ts ++ [t]) w) := by
  have HD := Lib.hid hD
  have HH := Lib.hid hH
  have HW := Lib.hid hw
  have HP := Lib.hid hp
  have HST := Lib.hid hst
  have hXl := lt_of_heap hD.x
  obtain ⟨-, -, c2, -⟩ := dbC_cells hD.x
  obtain ⟨a, c, rfl, hc1, hc2⟩ := hp.shape
  have HX := Lib.hid hD.x
  have HC2 := Lib.hid (fun W (hb : Below w.heap.size w W) => (hb.cell (p := ⟨X, 2, none⟩) hXl).trans c2)
  have hmm := @run_makeMap Tryz.prog
  clear hD hH hw hp hst c2
  go_enter Tryz.func14, Tryz.ntmps14
  go_wp2_with fail
  go_loopw [29] (fun i wr => ∃ k : Nat, i = .int .i64 k ∧ k ≤ 5 ∧ Below w.heap.size w wr) (fun i _ => 5 - (intOf i).toNat)
  case atStart => exact ⟨0, rfl, Nat.zero_le _, Below.refl _ _⟩
  case round =>
    obtain ⟨k, rfl, hk, hbl⟩ := hrel
    have HB := Lib.hid hbl
    by_cases hlt : k < 5
    · obtain ⟨b, off, sl, rfl, hbs, p0, p1, p2, hlab⟩ := (HP.out.below hbl).at_ hlt
      have HWr := Lib.hid (fun W (hb : Below wr.heap.size wr W) => wrong_any X d S I p hv (slV sl) k t (10 * t + (k : Int)) W ((hb.block X (by have := HB.out.size; omega)).trans ((HB.out.block X hXl).trans HX.out)) (hlab.below hb) (by omega) h0 h1)
      have hki : (k : Int) < 5 := by omega
      unfold slV at HWr p0
      generalize 10 * t + (k : Int) = v at *
      clear hlab hbl
      go_wp2_with fail
      refine (HWr.out _ ((Below.refl _ _).alloc (Nat.le_refl _) _)).mono ?_
      rintro e w2 ⟨rfl, hb2⟩
      have HB2 := Lib.hid ((HB.out.alloc HB.out.size (.cells #[.slice sl.1 sl.2.1 sl.2.2, .int .i64 t, .int .i64 v] 58)).trans (hb2.mono (HB.out.alloc HB.out.size _).size))
      clear hb2 p0 p1 p2 hbs HWr
      go_wp2_with fail
      go_roundw
      case rel => exact ⟨k + 1, by go_num, by omega, HB2.out⟩
      case measure => simp [intOf]; omega
    · have hke : k = 5 := by omega
      subst hke
      clear hlt hk hbl
      obtain ⟨x1, x2⟩ := heap2 wr (.map #[] 0) (.cells #[.int .i64 1, .slice none 0 0, .slice none 0 0, .slice none 0 0, .int .i64 0] 107)
      have hszW := HB.out.size
      have HI0 := Lib.hid (show WrtI w t (wr.heap.size + 1) wr.heap.size 0 (.slice none 0 0) ((wr.alloc (.map #[] 0)).alloc (.cells #[.int .i64 1, .slice none 0 0, .slice none 0 0, .slice none 0 0, .int .i64 0] 107)) from
        ⟨x2, OwnR.nil _ _, x1, (HB.out.alloc HB.out.size _).alloc (HB.out.alloc HB.out.size _).size _, hszW, by omega⟩)
      clear x1 x2
      go_wp2_with fail
      generalize (wr.alloc (.map #[] 0)).alloc (.cells #[.int .i64 1, .slice none 0 0, .slice none 0 0, .slice none 0 0, .int .i64 0] 107) = W at *
      generalize wr.heap.size = fm at *
      clear HB hmm
      rw [show ((5 : Nat) : Int) = 5 from rfl]
      go_loopw [10, 53] (fun rv i wq => ∃ (k : Nat) (ru : Value), rv = .slice none 0 0 ∧ i = .int .i64 k ∧ k ≤ 5 ∧ WrtI w t (fm + 1) fm k ru wq) (fun _ i _ => 5 - (intOf i).toNat)
      case atStart => exact ⟨0, _, rfl, rfl, Nat.zero_le _, HI0.out⟩
      case round =>
        clear HI0
        obtain ⟨k, ru, rfl, rfl, hk, hI⟩ := hrel
        have HI := Lib.hid hI
        obtain ⟨ra, rn, rc, rfl⟩ := hI.own.isSl
        have hrn : rn = k := by rw [(hI.own.rowG.len).1, List.length_take]; simp [rowsAt]; omega
        subst hrn
        clear hI
        by_cases hlt : rn < 5
        · obtain ⟨b, off, sl, rfl, hbs, p0, p1, p2, hlab⟩ := (HP.out.below HI.out.be).at_ hlt
          have hki : (rn : Int) < 5 := by omega
          have HRs := Lib.hid (rowsAt_succ (t := t) hlt)
          unfold slV at p0 hlab
          obtain ⟨sa, sn, sc⟩ := sl
          simp only at p0 hlab
          have hx2 := HC2.out _ HI.out.be
          have HA := Lib.hid (show Below wr.heap.size wr (wr.alloc (.cells #[.slice sa sn sc, .int .i64 t, .int .i64 (10 * t + (rn : Int))] 58)) from (Below.refl _ _).alloc (Nat.le_refl _) _)
          have HI2 := Lib.hid (HI.out.below HA.out)
          have HBx := Lib.hid (heap_alloc_new wr (.cells #[.slice sa sn sc, .int .i64 t, .int .i64 (10 * t + (rn : Int))] 58))
          have HLb := Lib.hid (hlab.below HA.out)
          have HV := Lib.hid (show ∃ v, v = 10 * t + (rn : Int) from ⟨_, rfl⟩)
          have HXl := Lib.hid (show X < wr.heap.size by have := HI.out.be.size; omega)
          obtain ⟨v, hv2⟩ : ∃ v, v = 10 * t + (rn : Int) := ⟨_, rfl⟩
          rw [← hv2] at p2 HA HBx HLb HRs HI2
          clear hlab hv2 HV
          go_wp2_with fail
          generalize hW2 : wr.alloc (.cells #[.slice sa sn sc, .int .i64 t, .int .i64 v] 58) = W2 at *
          clear hW2
          generalize wr.heap.size = Bx at *
          have y2 : W2.cell? ⟨X, 2, none⟩ = some (.pointer (some ⟨I, 0, none⟩)) := (HA.out.cell (p := ⟨X, 2, none⟩) HXl.out).trans hx2
          have y0 : W2.cell? ⟨Bx, 0, none⟩ = some (.slice sa sn sc) := by rw [cell_of_row W2 _ _ _ _ _ HBx.out]; rfl
          have HS0 := Lib.hid (show W2.drew.cell? ⟨X, 2, none⟩ = some (.pointer (some ⟨I, 0, none⟩)) ∧ W2.drew.cell? ⟨Bx, 0, none⟩ = some (.slice sa sn sc) ∧ Below W2.heap.size W2 W2.drew from ⟨y2, y0, (Below.refl _ _).drew⟩)
          have HFd := Lib.hid (fun (W3 : World) (hb : Below W2.heap.size W2 W3) => idxFind_yes (F := FI) (w := W3) (I := I) (n := 5) (.slice sa sn sc) rn (HD.out.ix.below (HI2.out.be.trans (hb.mono HI2.out.be.size))) hlt (by omega) (HLb.out.below hb))
          clear p0 p1 p2 hbs hx2 y2 y0
          go_region_held3 (fun w' => w'.cell? ⟨X, 2, none⟩ = some (.pointer (some ⟨I, 0, none⟩)) ∧ w'.cell? ⟨Bx, 0, none⟩ = some (.slice sa sn sc) ∧ Below W2.heap.size W2 w')
            (first | assumption | exact HS0.out | exact keepW2 (by assumption) hbF | exact keepW2 (by assumption) (Below.refl _ _).drew)
            (first | (go_at_call 35; refine (HFd.out _ (And.right (And.right (by assumption)))).mono ?_; rintro e w3 ⟨rfl, hbF⟩))
          have hS3 : w3.cell? ⟨X, 2, none⟩ = some (.pointer (some ⟨I, 0, none⟩)) ∧ w3.cell? ⟨Bx, 0, none⟩ = some (.slice sa sn sc) ∧ Below W2.heap.size W2 w3 := by assumption
          have hb3 := hS3.2.2
          have HI3 := Lib.hid (HI2.out.below hb3)
          have e3 := (hb3.block Bx (lt_of_heap HBx.out)).trans HBx.out
          have y1 : w3.cell? ⟨Bx, 1, none⟩ = some (.int .i64 t) := by rw [cell_of_row w3 _ _ _ _ _ e3]; rfl
          have y2 : w3.cell? ⟨Bx, 2, none⟩ = some (.int .i64 v) := by rw [cell_of_row w3 _ _ _ _ _ e3]; rfl
          have r2 : w3.cell? ⟨fm + 1, 2, none⟩ = some (.slice ra rn rc) := by rw [cell_of_row w3 _ _ _ _ _ HI3.out.box]; rfl
          have hRl : fm + 1 + 1 ≤ w3.heap.size := lt_of_heap HI3.out.box
          have HAl := Lib.hid (show Below w3.heap.size w3 (w3.alloc (.cells #[.int .i64 t, .int .i64 (rn : Int), .int .i64 v] 119)) from (Below.refl _ _).alloc (Nat.le_refl _) _)
          obtain ⟨L, hL⟩ : ∃ L, L = (rowsAt t).take rn := ⟨_, rfl⟩
          have hlen5 : L.length = rn := by rw [hL, List.length_take]; simp [rowsAt]; omega
          have HOA := Lib.hid (show OwnR 119 3 encRw _ _ _ L from by rw [hL]; exact HI3.out.own.below HAl.out)
          have HLen := Lib.hid hlen5
          have HLe := Lib.hid hL
          clear hL
          have HRk := Lib.hid (fun (w4 : World) (hg : (w3.alloc (.cells #[.int .i64 t, .int .i64 (rn : Int), .int .i64 v] 119)).grownBy w4 (Value.slice ra rn rc).ownBlock) => show w4.heap[fm + 1]? = some (.cells #[.int .i64 1, .slice none 0 0, .slice ra rn rc, .slice none 0 0, .int .i64 0] 107 (0, 0)) from
            (hg.block (fm + 1) (by have := lt_of_heap HI3.out.box; simp; omega) (fun e => HI3.out.own.ne_of HI3.out.box (by decide) e.symm)).trans (heap_old HI3.out.box))
          clear hS3 hb3 e3 HS0 HFd hbF
          go_wp2_with (at_builtin; refine app1 tyRow _ rfl (.tmp 102) (.tmp 109) rfl (fm + 1 + 1) _ L (t, (rn : Int), v) w3.heap.size rfl (by rfl) #[.int .i64 t, .int .i64 (rn : Int), .int .i64 v] rfl (heap_alloc_new ..) HOA.out (by simp; omega) (by have := HLen.out; omega) ?_; intro g' cap' w4 hown4 hbel4 hgr4; have HP4 := HRk.out w4 hgr4; have HO4 := Lib.hid hown4; have HG4 := Lib.hid hgr4; have c4 : w4.cell? ⟨fm + 1, 2, none⟩ = some (.slice ra rn rc) := by { rw [cell_of_row w4 _ _ _ _ _ HP4]; rfl }; have f4 : w4.frozen? ⟨fm + 1, 2, none⟩ = false := Lib.frozen_of_heap HP4 2; have HP5 := Lib.hid HP4; clear hown4 hbel4 hgr4 HP4)
          have HI5 := Lib.hid (show WrtI w t (fm + 1) fm (rn + 1) (.slice (some ⟨g', 0, none⟩) (rn + 1) cap') (w4.setCell ⟨fm + 1, 2, none⟩ (.slice (some ⟨g', 0, none⟩) (rn + 1) cap')) from by
            have ho5 : OwnR 119 3 encRw w4 (fm + 1 + 1) (.slice (some ⟨g', 0, none⟩) (rn + 1) cap') ((rowsAt t).take (rn + 1)) := by
              rw [HRs.out, ← HLe.out]
              have := HO4.out
              rw [HLen.out] at this
              exact this
            have hge : ∀ b, (Value.slice ra rn rc).ownBlock = some b → fm + 1 + 1 ≤ b := fun b e => (World.ownsRow.lt HI3.out.own b e).1
            have hm4 : w4.heap[fm]? = some (.map #[] 0) := (HG4.out.block fm (by have := lt_of_heap HI3.out.mp; simp; omega) (fun e => by have := hge _ e.symm; omega)).trans (heap_old HI3.out.mp)
            have hlo := HI3.out.lo
            refine ⟨by rw [heap_setC HP5.out]; rfl, ho5.out (Out.setCell w4 ⟨fm + 1, 2, none⟩ _) (fun q e e2 => ho5.ne_of HP5.out (by decide) (e.trans (by rw [e2]))), heap_setO hm4 (by omega), ?_, hlo⟩
            exact ((HI3.out.be.alloc HI3.out.be.size _).grown HG4.out (by have := HI3.out.be.size; simp; omega) (fun b e => by have := hge b e; omega)).setCell (by simp only; omega) _)
          clear c4 f4 HO4 HG4 HP5 r2 y1 y2 hlen5
          go_roundw
          case rel => exact ⟨rn + 1, _, rfl, by go_num, by omega, HI5.out⟩
          case measure => simp [intOf]; omega
        · have hke : rn = 5 := by omega
          subst hke
          clear hlt hk
          have hlen : (Builtin.len_ #[65] 3 #[.map (some fm)]).run Tryz.prog wr = .ok (.int .i64 0) wr := run_len_map wr _ _ fm #[] 0 (by kernel_rfl) HI.out.mp
          have HLn := Lib.hid (idxLen_any (HD.out.ix.below HI.out.be))
          have x2 := HC2.out _ HI.out.be
          have b0 : wr.cell? ⟨fm + 1, 0, none⟩ = some (.int .i64 1) := by rw [cell_of_row wr _ _ _ _ _ HI.out.box]; rfl
          have b1 : wr.cell? ⟨fm + 1, 1, none⟩ = some (.slice none 0 0) := by rw [cell_of_row wr _ _ _ _ _ HI.out.box]; rfl
          have b2 : wr.cell? ⟨fm + 1, 2, none⟩ = some (.slice ra 5 rc) := by rw [cell_of_row wr _ _ _ _ _ HI.out.box]; rfl
          have b3 : wr.cell? ⟨fm + 1, 3, none⟩ = some (.slice none 0 0) := by rw [cell_of_row wr _ _ _ _ _ HI.out.box]; rfl
          have b4 : wr.cell? ⟨fm + 1, 4, none⟩ = some (.int .i64 0) := by rw [cell_of_row wr _ _ _ _ _ HI.out.box]; rfl
          have hszr := HI.out.be.size
          go_wp2_with fail
          refine HLn.out.mono ?_
          rintro e w3 ⟨rfl, rfl⟩
          have HAl := Lib.hid (show Below wr.heap.size wr (wr.alloc (.cells #[.int .i64 1, .slice none 0 0, .slice ra 5 rc, .slice none 0 0, .int .i64 0] 107)) from (Below.refl _ _).alloc (Nat.le_refl _) _)
          go_wp2_with (at_builtin; refine app1 tyRec _ rfl (.tmp 123) (.tmp 125) rfl wr.heap.size _ [] (1, (none, 0, 0), (ra, 5, rc)) wr.heap.size rfl (by rfl) #[.int .i64 1, .slice none 0 0, .slice ra 5 rc, .slice none 0 0, .int .i64 0] rfl (heap_alloc_new ..) (OwnR.nil _ _) (by simp) (by simp) ?_; intro g' cap' w4 hown4 hbel4 hgr4; have HO4 := Lib.hid hown4; have HB4 := Lib.hid (HAl.out.trans hbel4); clear hown4 hbel4 hgr4)
          have hbe4 : Below w.heap.size w w4 := HI.out.be.trans (HB4.out.mono HI.out.be.size)
          have hb4' := HB4.out.size
          have HLg := Lib.hid (log_any base X d S I p hv FSb FI FP FH (Fw was) was (5, H) (.slice (some ⟨g', 0, none⟩) 1 cap') [.rows (rowsAt t)] w.heap.size w4 (HD.out.below hbe4) (.inl (by unfold Fw setFs; rw [if_pos rfl]))
            (by
              have hr5 : OwnR 119 3 encRw w4 w.heap.size (.slice ra 5 rc) (rowsAt t) := by
                have h7 := HI.out.own.below HB4.out
                rw [show (rowsAt t).take 5 = rowsAt t from List.take_of_length_le (by simp [rowsAt])] at h7
                exact ownsRow_base h7 (by have := HI.out.lo; omega)
              have ho4 : OwnR 107 5 encRec w4 w.heap.size (.slice (some ⟨g', 0, none⟩) 1 cap') [(1, (none, 0, 0), (ra, 5, rc))] := ownsRow_base HO4.out hszr
              refine ⟨[(1, (none, 0, 0), (ra, 5, rc))], ho4.ownE, rfl, fun i hi => ?_⟩
              have hi0 : i = 0 := by simp at hi; exact hi
              subst hi0
              exact ⟨rfl, rfl, hr5.ownE, rowsAt_rowsOk h0 h1⟩)
            (fun k hk => by
              have hk0 : k = 0 := by simp at hk; exact hk
              subst hk0
              exact HH.out.okR (by omega) h0 h1 5)
            ⟨hXl, fun k hk => by
              rcases hk with hk | hk | hk | hk
              · exact HD.out.st.lt k hk
              · exact HD.out.ix.lt k hk
              · exact HD.out.po.lt k hk
              · exact HD.out.hd.lt k hk⟩
            (by have := HW.out; simp [lenR, sumN, lenRc, rowsAt]; omega) (HST.out.below hbe4 (by have := HD.out.ge.1; omega)) hb0 (by simp) (by simp))
          have HBe4 := Lib.hid hbe4
          clear hlen HLn x2 b0 b1 b2 b3 b4 HAl HO4 hbe4
          go_wp2_with fail
          refine HLg.out.mono ?_
          rintro e w5 ⟨rfl, hv5, FS5, FI5, FH5, t5, ht5, hd5, hb5⟩
          have HEnd := Lib.hid (show WriteA base X d S I p FP (ts ++ [t]) w (.returned (.int .i64 0)) w5 from by
            refine ⟨rfl, ⟨hv5, FS5, FI5, FH5, _, .inr ⟨by simp, was ++ t5, ?_, ?_⟩, HH.out.put h0 h1⟩, (HBe4.out.mono (by have := HD.out.ge.1; omega)).trans hb5⟩
            · have := HW.out
              simp [lenR, sumN, lenRc, rowsAt] at ht5
              simp; omega
            · rw [Fw_set] at hd5; exact hd5)
          clear ht5 hd5 hb5
          go_wp2_with fail
          go_ret
          exact HEnd.out

end Go.Proofs.YtheenlomlmbjaaaGreatDoor

namespace Go.Proofs.YtheenlomlmbjaaaGreatDoor
open Go.RowKit Go.Maps

def KeysE (w : World) (km n : Nat) : Prop := ∃ D f, OMap Tryz.prog 9 w km n D ∧ StrD f n D ∧ (∀ j, j < 8 → f (kyB j) = if j < n then some (.int .i64 (j : Int)) else none) ∧ Maps.size D = n
theorem KeysE.p {w : World} {km n : Nat} (h : KeysE w km n) : KeysP w km n := by obtain ⟨D, f, h1, h2, h3, _⟩ := h; exact ⟨D, f, h1, h2, h3⟩
theorem KeysE.stay {w w' : World} {km n : Nat} (h : KeysE w km n) (hb : w'.heap[km]? = w.heap[km]?) : KeysE w' km n := by
  obtain ⟨D, f, h1, h2⟩ := h
  exact ⟨D, f, OMap.stay h1 hb, h2⟩
theorem KeysE.mapB {w : World} {km n : Nat} (h : KeysE w km n) : MapB w km := h.p.mapB
theorem KeysE.len {w : World} {km n : Nat} (h : KeysE w km n) : (Builtin.len_ #[65] 3 #[.map (some km)]).run Tryz.prog w = .ok (.int .i64 (n : Int)) w := by
  obtain ⟨D, f, h1, h2, h3, h4⟩ := h
  obtain ⟨c, hc, hr⟩ := lenM_run h1
  rw [hc, h4] at hr
  exact hr
theorem KeysE.add {w : World} {km n : Nat} (h : KeysE w km n) (hn : n < 5) :
    (Instr.mapUpdate 65 (.map (some km)) (.string (bs (kyB n))) (.int .i64 (n : Int))).run Tryz.prog w = .ok () (mapPut Tryz.prog 65 km (.string (bs (kyB n))) (.int .i64 (n : Int)) w) ∧
    KeysE (mapPut Tryz.prog 65 km (.string (bs (kyB n))) (.int .i64 (n : Int)) w) km (n + 1) ∧ w.grownBy (mapPut Tryz.prog 65 km (.string (bs (kyB n))) (.int .i64 (n : Int)) w) (some km) := by
  obtain ⟨D, f, h1, h2, h3, h4⟩ := h
  have hky : (kyB n).length ≤ 100000 := by simp [kyB]
  obtain ⟨hrun, -, hg⟩ := h1.keysOk.put keyedStr Tryz.underlying65 (keyS hky) (.int .i64 (n : Int))
  have hp := h1.put keyedStr Tryz.underlying65 (by simp only [maxLen]; omega) (keyS hky) (.int .i64 (n : Int))
  refine ⟨hrun, ⟨_, _, hp, h2.put _ _, fun j hj => ?_, ?_⟩, hg⟩
  · unfold setO
    by_cases e : j = n
    · subst e; rw [if_pos rfl, if_pos (by omega)]
    · rw [if_neg (fun e2 => e (ky_inj hj (by omega) e2)), h3 j hj]
      by_cases e3 : j < n
      · rw [if_pos e3, if_pos (by omega)]
      · rw [if_neg e3, if_neg (by omega)]
  · have h5 := Maps.size_put (k := kS (kyB n)) h2.tidy (.held (.int .i64 (n : Int)))
    have hh : Maps.has D (kS (kyB n)) = false := by rw [h2.has, h3 n (by omega), if_neg (by omega)]; rfl
    rw [h5, hh, h4]; rfl

structure WrtZ (w : World) (t : Int) (Rb fm : Nat) (k kk kr : Nat) (rv ru : Value) (wq : World) : Prop where
  box : wq.heap[Rb]? = some (.cells #[.int .i64 1, .slice none 0 0, ru, .slice none 0 0, .int .i64 0] 107 (0, 0))
  own : OwnR 119 3 encRw wq (Rb + 1) ru ((rowsAt t).take k)
  keys : KeysE wq fm kk
  recs : ∃ X : List RecX, OwnR 107 5 encRec wq (Rb + 1) rv X ∧ X.length = kr ∧ ∀ j, j < kr → ∃ b c, X.getD j rec0 = (0, (some ⟨b, 0, none⟩, 1, c), (none, 0, 0)) ∧ OwnR 53 2 encL2 wq (Rb + 1) (.slice (some ⟨b, 0, none⟩) 1 c) (oneL j)
  be : Below w.heap.size w wq
  lo : w.heap.size ≤ fm ∧ fm < Rb
section
variable {w : World} {t : Int} {Rb fm k kk kr : Nat} {rv ru : Value} {wq w' : World}
theorem WrtZ.below (h : WrtZ w t Rb fm k kk kr rv ru wq) (hb : Below wq.heap.size wq w') : WrtZ w t Rb fm k kk kr rv ru w' := by
  obtain ⟨h1, h2, h3, ⟨X, h4, h5, h6⟩, h7, h8⟩ := h
  refine ⟨(hb.block _ (lt_of_heap h1)).trans h1, h2.below hb, h3.stay (hb.block fm h3.mapB.lt), ⟨X, h4.below hb, h5, fun j hj => ?_⟩, h7.trans (hb.mono h7.size), h8⟩
  obtain ⟨b, c, e1, e2⟩ := h6 j hj
  exact ⟨b, c, e1, e2.below hb⟩
theorem WrtZ.addKey {kk' : Nat} (h : WrtZ w t Rb fm k kk kr rv ru wq) (hg : wq.grownBy w' (some fm)) (hk : KeysE w' fm kk') : WrtZ w t Rb fm k kk' kr rv ru w' := by
  obtain ⟨h1, h2, h3, ⟨X, h4, h5, h6⟩, h7, h8⟩ := h
  have hne : ∀ b t, TyB wq b t → w'.heap[b]? = wq.heap[b]? := fun b t hb => hg.block b hb.lt (fun e => (hb.neMap h3.mapB) (Option.some.inj e))
  refine ⟨(hne _ _ ⟨_, _, h1⟩).trans h1, h2.stay (fun b e => hne _ _ (h2.tyB e)), hk, ⟨X, h4.stay (fun b e => hne _ _ (h4.tyB e)), h5, fun j hj => ?_⟩, h7.grown hg h7.size (fun b e => by cases e; exact h8.1), h8⟩
  obtain ⟨b, c, e1, e2⟩ := h6 j hj
  exact ⟨b, c, e1, e2.stay (fun b e => hne _ _ (e2.tyB e))⟩
theorem WrtZ.addRec {X : List RecX} {w3 : World} {o : Obj} {rv' : Value} {b c : Nat} (h : WrtZ w t Rb fm k kk kr rv ru wq) (h4 : OwnR 107 5 encRec wq (Rb + 1) rv X) (h5 : X.length = kr)
    (h6 : ∀ j, j < kr → ∃ b c, X.getD j rec0 = (0, (some ⟨b, 0, none⟩, 1, c), (none, 0, 0)) ∧ OwnR 53 2 encL2 wq (Rb + 1) (.slice (some ⟨b, 0, none⟩) 1 c) (oneL j))
    (hl : OwnR 53 2 encL2 wq (Rb + 1) (.slice (some ⟨b, 0, none⟩) 1 c) (oneL kr)) (hg : (wq.alloc o).grownBy w3 rv.ownBlock) (hown : OwnR 107 5 encRec w3 (Rb + 1) rv' (X ++ [(0, (some ⟨b, 0, none⟩, 1, c), (none, 0, 0))])) : WrtZ w t Rb fm k kk (kr + 1) rv' ru w3 := by
  have hA := h.below ((Below.refl wq.heap.size wq).alloc (Nat.le_refl _) o)
  have h4' := h4.below ((Below.refl wq.heap.size wq).alloc (Nat.le_refl _) o)
  have hne : ∀ b t, TyB (wq.alloc o) b t → t ≠ 107 → w3.heap[b]? = (wq.alloc o).heap[b]? := fun b t hb ht => hg.block b hb.lt (fun e => (hb.ne (h4'.tyB e.symm) ht) rfl)
  have hge : ∀ j, rv.ownBlock = some j → Rb + 1 ≤ j := fun j e => (World.ownsRow.lt h4 j e).1
  have hl' := hl.below ((Below.refl wq.heap.size wq).alloc (Nat.le_refl _) o)
  obtain ⟨a1, a2, a3, _, a7, a8⟩ := hA
  refine ⟨(hg.block Rb (lt_of_heap a1) (fun e => by have := hge _ e.symm; omega)).trans a1, a2.stay (fun b e => hne _ _ (a2.tyB e) (by decide)), a3.stay (hg.block fm a3.mapB.lt (fun e => by have := hge _ e.symm; omega)), ⟨_, hown, by simp [h5], fun j hj => ?_⟩, a7.grown hg a7.size (fun b e => by have := hge b e; omega), a8⟩
  by_cases e : j < kr
  · obtain ⟨b', c', e1, e2⟩ := h6 j e
    have e2' := e2.below ((Below.refl wq.heap.size wq).alloc (Nat.le_refl _) o)
    refine ⟨b', c', ?_, e2'.stay (fun b e => hne _ _ (e2'.tyB e) (by decide))⟩
    rw [List.getD_eq_getElem?_getD, List.getElem?_append_left (by omega), ← List.getD_eq_getElem?_getD]; exact e1
  · have ej : j = kr := by omega
    subst ej
    refine ⟨b, c, ?_, hl'.stay (fun b e => hne _ _ (hl'.tyB e) (by decide))⟩
    rw [← h5]; simp [List.getD]
theorem WrtZ.addRow {w3 : World} {o : Obj} {g cap : Nat} (h : WrtZ w t Rb fm k kk kr rv ru wq) (hg : (wq.alloc o).grownBy w3 ru.ownBlock) (hown : OwnR 119 3 encRw w3 (Rb + 1) (.slice (some ⟨g, 0, none⟩) (k + 1) cap) ((rowsAt t).take (k + 1))) :
    WrtZ w t Rb fm (k + 1) kk kr rv (.slice (some ⟨g, 0, none⟩) (k + 1) cap) (w3.setCell ⟨Rb, 2, none⟩ (.slice (some ⟨g, 0, none⟩) (k + 1) cap)) := by
  have hA := h.below ((Below.refl wq.heap.size wq).alloc (Nat.le_refl _) o)
  obtain ⟨a1, a2, a3, ⟨X, a4, a5, a6⟩, a7, a8⟩ := hA
  have hge : ∀ j, ru.ownBlock = some j → Rb + 1 ≤ j := fun j e => (World.ownsRow.lt a2 j e).1
  have hne : ∀ b t, TyB (wq.alloc o) b t → t ≠ 119 → b ≠ Rb → (w3.setCell ⟨Rb, 2, none⟩ (.slice (some ⟨g, 0, none⟩) (k + 1) cap)).heap[b]? = (wq.alloc o).heap[b]? := fun b t hb ht hR => (Below.heap_setCell _ _ _ b hR).trans (hg.block b hb.lt (fun e => (hb.ne (a2.tyB e.symm) ht) rfl))
  have h1 : w3.heap[Rb]? = _ := (hg.block Rb (lt_of_heap a1) (fun e => by have := hge _ e.symm; omega)).trans a1
  have geR : ∀ {α : Type} {t k : Nat} {enc : α → List Value} {v : Value} {l : List α}, OwnR t k enc (wq.alloc o) (Rb + 1) v l → ∀ b, v.ownBlock = some b → b ≠ Rb := fun ho b e => by have := (World.ownsRow.lt ho b e).1; omega
  refine ⟨by rw [heap_setC h1]; rfl, hown.out (Out.setCell w3 ⟨Rb, 2, none⟩ _) (fun q e e2 => hown.ne_of h1 (by decide) (e.trans (by rw [e2]))), a3.stay ((Below.heap_setCell _ _ _ fm (by simp only; omega)).trans (hg.block fm a3.mapB.lt (fun e => by have := hge _ e.symm; omega))), ⟨X, a4.stay (fun b e => hne _ _ (a4.tyB e) (by decide) (geR a4 b e)), a5, fun j hj => ?_⟩, ((a7.grown hg a7.size (fun b e => by have := hge b e; omega)).setCell (by simp only; omega) _), a8⟩
  obtain ⟨b, c, e1, e2⟩ := a6 j hj
  exact ⟨b, c, e1, e2.stay (fun b e => hne _ _ (e2.tyB e) (by decide) (geR e2 b e))⟩
end

end Go.Proofs.YtheenlomlmbjaaaGreatDoor

namespace Go.Proofs.YtheenlomlmbjaaaGreatDoor
open Go.RowKit Go.Maps

def recsZ (t : Int) : List Rc := (List.range 5).map Rc.lab ++ [.rows (rowsAt t)]
theorem recsZ_get {t : Int} {k : Nat} (h : k < 5) : (recsZ t).getD k (.lab 0) = .lab k := by
  have : k = 0 ∨ k = 1 ∨ k = 2 ∨ k = 3 ∨ k = 4 := by omega
  rcases this with rfl | rfl | rfl | rfl | rfl <;> rfl
set_option maxRecDepth 10000 in
theorem recsZ_run {t : Int} {k : Nat} (h : k ≤ 5) : runR (0, []) ((recsZ t).take k) = (k, []) := by
  have : k = 0 ∨ k = 1 ∨ k = 2 ∨ k = 3 ∨ k = 4 ∨ k = 5 := by omega
  rcases this with rfl | rfl | rfl | rfl | rfl | rfl <;> rfl
theorem recsZ_len (t : Int) : lenR (recsZ t) = 377 := by simp [lenR, recsZ, sumN, lenRc, rowsAt, List.range_succ]
set_option maxRecDepth 100000 in
set_option maxHeartbeats 8000000 in
theorem writeZ_any (base X d S I p : Nat) (hv : Value) (FSb FI FP FH : Bl) (t : Int) (pv : Value) (w : World) (hD : Db base w X d S I p hv FSb FI FP FH (fun _ => none) 0 [])
    (hp : PtsV w pv t 5) (h0 : 0 ≤ t) (h1 : t ≤ 3072) (hst : StepsOk w 0) (hb0 : 0 < base) :
    Calls Tryz.prog 14 #[.pointer (some ⟨X, 0, none⟩), pv] w (WriteA base X d S I p FP [t] w) := by
  have HD := Lib.hid hD
  have HP := Lib.hid hp
  have HST := Lib.hid hst
  have hXl := lt_of_heap hD.x
  obtain ⟨-, -, c2, -⟩ := dbC_cells hD.x
  obtain ⟨a, c, rfl, hc1, hc2⟩ := hp.shape
  have HX := Lib.hid hD.x
  have HC2 := Lib.hid (fun W (hb : Below w.heap.size w W) => (hb.cell (p := ⟨X, 2, none⟩) hXl).trans c2)
  have hmm := @run_makeMap Tryz.prog
  clear hD hp hst c2
  go_enter Tryz.func14, Tryz.ntmps14
  go_wp2_with fail
  go_loopw [29] (fun i wr => ∃ k : Nat, i = .int .i64 k ∧ k ≤ 5 ∧ Below w.heap.size w wr) (fun i _ => 5 - (intOf i).toNat)
  case atStart => exact ⟨0, rfl, Nat.zero_le _, Below.refl _ _⟩
  case round =>
    obtain ⟨k, rfl, hk, hbl⟩ := hrel
    have HB := Lib.hid hbl
    by_cases hlt : k < 5
    · obtain ⟨b, off, sl, rfl, hbs, p0, p1, p2, hlab⟩ := (HP.out.below hbl).at_ hlt
      have HWr := Lib.hid (fun W (hb : Below wr.heap.size wr W) => wrong_any X d S I p hv (slV sl) k t (10 * t + (k : Int)) W ((hb.block X (by have := HB.out.size; omega)).trans ((HB.out.block X hXl).trans HX.out)) (hlab.below hb) (by omega) h0 h1)
      have hki : (k : Int) < 5 := by omega
      unfold slV at HWr p0
      generalize 10 * t + (k : Int) = v at *
      clear hlab hbl
      go_wp2_with fail
      refine (HWr.out _ ((Below.refl _ _).alloc (Nat.le_refl _) _)).mono ?_
      rintro e w2 ⟨rfl, hb2⟩
      have HB2 := Lib.hid ((HB.out.alloc HB.out.size (.cells #[.slice sl.1 sl.2.1 sl.2.2, .int .i64 t, .int .i64 v] 58)).trans (hb2.mono (HB.out.alloc HB.out.size _).size))
      clear hb2 p0 p1 p2 hbs HWr
      go_wp2_with fail
      go_roundw
      case rel => exact ⟨k + 1, by go_num, by omega, HB2.out⟩
      case measure => simp [intOf]; omega
    · have hke : k = 5 := by omega
      subst hke
      clear hlt hk hbl
      obtain ⟨x1, x2⟩ := heap2 wr (.map #[] 0) (.cells #[.int .i64 1, .slice none 0 0, .slice none 0 0, .slice none 0 0, .int .i64 0] 107)
      have hszW := HB.out.size
      have HI0 := Lib.hid (show WrtZ w t (wr.heap.size + 1) wr.heap.size 0 0 0 (.slice none 0 0) (.slice none 0 0) ((wr.alloc (.map #[] 0)).alloc (.cells #[.int .i64 1, .slice none 0 0, .slice none 0 0, .slice none 0 0, .int .i64 0] 107)) from
        ⟨x2, OwnR.nil _ _, ⟨.map [], _, OMap.stay (World.ownsMap_made wr _ _ _) (x1.trans (heap_alloc_new wr (.map #[] 0)).symm), StrD.start, fun j _ => by simp, rfl⟩, ⟨[], OwnR.nil _ _, rfl, fun j hj => by omega⟩, (HB.out.alloc HB.out.size _).alloc (HB.out.alloc HB.out.size _).size _, hszW, by omega⟩)
      clear x1 x2
      go_wp2_with fail
      generalize (wr.alloc (.map #[] 0)).alloc (.cells #[.int .i64 1, .slice none 0 0, .slice none 0 0, .slice none 0 0, .int .i64 0] 107) = W at *
      generalize wr.heap.size = fm at *
      clear HB hmm
      rw [show ((5 : Nat) : Int) = 5 from rfl]
      go_loopw [10, 53] (fun rv i wq => ∃ (k : Nat) (ru : Value), i = .int .i64 k ∧ k ≤ 5 ∧ WrtZ w t (fm + 1) fm k k k rv ru wq) (fun _ i _ => 5 - (intOf i).toNat)
      case atStart => exact ⟨0, _, rfl, Nat.zero_le _, HI0.out⟩
      case round =>
        clear HI0
        rename_i rv _
        obtain ⟨k, ru, rfl, hk, hI⟩ := hrel
        have HI := Lib.hid hI
        obtain ⟨ra, rn, rc, rfl⟩ := hI.own.isSl
        have hrn : rn = k := by rw [(hI.own.rowG.len).1, List.length_take]; simp [rowsAt]; omega
        subst hrn
        clear hI
        by_cases hlt : rn < 5
        · obtain ⟨b, off, sl, rfl, hbs, p0', p1', p2', hlab⟩ := HP.out.at_ hlt
          have p0 := (HI.out.be.cell (p := ⟨b, off + rn * 3, none⟩) hbs).trans p0'
          have p1 := (HI.out.be.cell (p := ⟨b, off + rn * 3 + 1, none⟩) hbs).trans p1'
          have p2 := (HI.out.be.cell (p := ⟨b, off + rn * 3 + 2, none⟩) hbs).trans p2'
          clear p0' p1' p2'
          have hbs := Nat.lt_of_lt_of_le hbs HI.out.be.size
          have hki : (rn : Int) < 5 := by omega
          have HRs := Lib.hid (rowsAt_succ (t := t) hlt)
          unfold slV at p0 hlab
          obtain ⟨sa, sn, sc⟩ := sl
          simp only at p0 hlab
          have hx2 := HC2.out _ HI.out.be
          have HA := Lib.hid (show Below wr.heap.size wr (wr.alloc (.cells #[.slice sa sn sc, .int .i64 t, .int .i64 (10 * t + (rn : Int))] 58)) from (Below.refl _ _).alloc (Nat.le_refl _) _)
          have HI2 := Lib.hid (HI.out.below HA.out)
          have HBx := Lib.hid (heap_alloc_new wr (.cells #[.slice sa sn sc, .int .i64 t, .int .i64 (10 * t + (rn : Int))] 58))
          have HLw := Lib.hid hlab
          have HXl := Lib.hid (show X < wr.heap.size by have := HI.out.be.size; omega)
          obtain ⟨v, hv2⟩ : ∃ v, v = 10 * t + (rn : Int) := ⟨_, rfl⟩
          rw [← hv2] at p2 HA HBx HRs HI2
          clear hlab hv2
          go_wp2_with fail
          generalize hW2 : wr.alloc (.cells #[.slice sa sn sc, .int .i64 t, .int .i64 v] 58) = W2 at *
          clear hW2
          generalize wr.heap.size = Bx at *
          have y2 : W2.cell? ⟨X, 2, none⟩ = some (.pointer (some ⟨I, 0, none⟩)) := (HA.out.cell (p := ⟨X, 2, none⟩) HXl.out).trans hx2
          have y0 : W2.cell? ⟨Bx, 0, none⟩ = some (.slice sa sn sc) := by rw [cell_of_row W2 _ _ _ _ _ HBx.out]; rfl
          have HS0 := Lib.hid (show W2.drew.cell? ⟨X, 2, none⟩ = some (.pointer (some ⟨I, 0, none⟩)) ∧ W2.drew.cell? ⟨Bx, 0, none⟩ = some (.slice sa sn sc) ∧ Below W2.heap.size W2 W2.drew from ⟨y2, y0, (Below.refl _ _).drew⟩)
          have HFd := Lib.hid (fun (W3 : World) (hb : Below W2.heap.size W2 W3) => idxFind_no (F := FI) (w := W3) (I := I) (n := 0) (.slice sa sn sc) rn (HD.out.ix.below (HI2.out.be.trans (hb.mono HI2.out.be.size))) (Nat.zero_le _) hlt (HLw.out.below (HI2.out.be.trans (hb.mono HI2.out.be.size))))
          clear p0 p1 p2 hbs hx2 y2 y0
          go_region_held3 (fun w' => w'.cell? ⟨X, 2, none⟩ = some (.pointer (some ⟨I, 0, none⟩)) ∧ w'.cell? ⟨Bx, 0, none⟩ = some (.slice sa sn sc) ∧ Below W2.heap.size W2 w')
            (first | assumption | exact HS0.out | exact keepW2 (by assumption) hbF | exact keepW2 (by assumption) (Below.refl _ _).drew)
            (first | (go_at_call 35; refine (HFd.out _ (And.right (And.right (by assumption)))).mono ?_; rintro e w3 ⟨rfl, hbF⟩))
          have hS3 : w3.cell? ⟨X, 2, none⟩ = some (.pointer (some ⟨I, 0, none⟩)) ∧ w3.cell? ⟨Bx, 0, none⟩ = some (.slice sa sn sc) ∧ Below W2.heap.size W2 w3 := by assumption
          have hb3 := hS3.2.2
          have HI3 := Lib.hid (HI2.out.below hb3)
          have HBx3 := Lib.hid ((hb3.block Bx (lt_of_heap HBx.out)).trans HBx.out)
          have y0 : w3.cell? ⟨Bx, 0, none⟩ = some (.slice sa sn sc) := hS3.2.1
          have HK := Lib.hid (L4.key_any (.slice sa sn sc) (oneL rn) w3 (HLw.out.below HI3.out.be).labels)
          rw [one_chk (by omega), kyB_eq (by omega)] at HK
          unfold L4.printK L4.errL at HK
          simp only [if_true] at HK
          clear hS3 hb3 HS0 HFd hbF HBx HA HI2
          go_wp2_with fail
          refine HK.out.mono ?_
          rintro e w4 ⟨rfl, hb4⟩
          have HI4 := Lib.hid (HI3.out.below hb4)
          have HBx4 := Lib.hid ((hb4.block Bx (lt_of_heap HBx3.out)).trans HBx3.out)
          have z0 : w4.cell? ⟨Bx, 0, none⟩ = some (.slice sa sn sc) := by rw [cell_of_row w4 _ _ _ _ _ HBx4.out]; rfl
          have hlk := HI4.out.keys.p.none (by omega)
          have hlen := HI4.out.keys.len
          have x2 := HC2.out _ HI4.out.be
          have HLn := Lib.hid (idxLen_any (HD.out.ix.below HI4.out.be))
          obtain ⟨hrun, hk5, hg5⟩ := HI4.out.keys.add hlt
          generalize hky : kyB rn = ky at *
          have HKY := Lib.hid hky
          clear hb4 y0 hky HK HBx3 HI3
          go_wp2_with fail
          refine HLn.out.mono ?_
          rintro e w9 ⟨rfl, rfl⟩
          obtain ⟨W5, hW5⟩ : ∃ W5, W5 = mapPut Tryz.prog 65 fm (.string (bs ky)) (.int .i64 (rn : Int)) w4 := ⟨_, rfl⟩
          rw [← hW5] at hrun hk5 hg5
          have HI5 := Lib.hid (HI4.out.addKey hg5 hk5)
          have hfB : fm ≠ Bx := fun e => (TyB.neMap ⟨_, _, HBx4.out⟩ HI4.out.keys.mapB) e.symm
          have HBx5 := Lib.hid ((hg5.block Bx (lt_of_heap HBx4.out) (fun e => hfB (Option.some.inj e).symm)).trans HBx4.out)
          have z5 : W5.cell? ⟨Bx, 0, none⟩ = some (.slice sa sn sc) := by rw [cell_of_row W5 _ _ _ _ _ HBx5.out]; rfl
          clear hk5 hg5 hW5 hfB
          go_wp2_with fail
          have HCl := Lib.hid (cloneLab_any (.slice sa sn sc) (oneL rn) W5 (HLw.out.below HI5.out.be) (by simp [oneL]))
          refine HCl.out.mono ?_
          rintro e w6 ⟨u6, rfl, hu6, hb6⟩
          obtain ⟨b6, c6, rfl⟩ := oneShape hu6
          have HI6 := Lib.hid (HI5.out.below hb6)
          have hRW : fm + 1 + 1 ≤ W5.heap.size := lt_of_heap HI5.out.box
          have hu6' : OwnR 53 2 encL2 w6 (fm + 1 + 1) (.slice (some ⟨b6, 0, none⟩) 1 c6) (oneL rn) := ownsRow_base hu6 hRW
          have HU6 := Lib.hid hu6'
          have HBx6 := Lib.hid ((hb6.block Bx (lt_of_heap HBx5.out)).trans HBx5.out)
          have hsz6 := hb6.size
          obtain ⟨Xr, x4, x5, x6⟩ := HI6.out.recs
          obtain ⟨va, vn, vc, rfl⟩ := x4.isSl
          have hvn : vn = rn := by rw [(x4.rowG.len).1, x5]
          subst hvn
          have HX4 := Lib.hid x4
          have HX6 := Lib.hid x6
          have HAl6 := Lib.hid (show Below w6.heap.size w6 (w6.alloc (.cells #[.int .i64 0, .slice (some ⟨b6, 0, none⟩) 1 c6, .slice none 0 0, .slice none 0 0, .int .i64 0] 107)) from (Below.refl _ _).alloc (Nat.le_refl _) _)
          have HX4a := Lib.hid (x4.below HAl6.out)
          have HX5 := Lib.hid x5
          have HBl6 := Lib.hid (show (Value.slice va vn vc).ownBlock = none ∨ (Value.slice va vn vc).ownBlock ≠ some Bx from .inr (HX4.out.ne_of HBx6.out (by decide)))
          clear hu6 hu6' hb6 z5 HCl x4 x6
          obtain ⟨L, hL⟩ : ∃ L, L = (rowsAt t).take vn := ⟨_, rfl⟩
          have hlen5 : L.length = vn := by rw [hL, List.length_take]; simp [rowsAt]; omega
          have HLen := Lib.hid hlen5
          have HLe := Lib.hid hL
          have HSt7 := Lib.hid (fun (g7 cap7 : Nat) (w7 : World) (hown7 : OwnR 107 5 encRec w7 (fm + 1 + 1) (.slice (some ⟨g7, 0, none⟩) (Xr.length + 1) cap7) (Xr ++ [(0, (some ⟨b6, 0, none⟩, 1, c6), (none, 0, 0))])) (hgr7 : (w6.alloc (.cells #[.int .i64 0, .slice (some ⟨b6, 0, none⟩) 1 c6, .slice none 0 0, .slice none 0 0, .int .i64 0] 107)).grownBy w7 (Value.slice va vn vc).ownBlock) =>
            show WrtZ w t (fm + 1) fm vn (vn + 1) (vn + 1) (.slice (some ⟨g7, 0, none⟩) (Xr.length + 1) cap7) (.slice ra vn rc) w7 ∧ w7.heap[Bx]? = some (.cells #[.slice sa sn sc, .int .i64 t, .int .i64 v] 58 (0, 0)) from
            ⟨HI6.out.addRec HX4.out HX5.out HX6.out HU6.out hgr7 hown7, (hgr7.block Bx (lt_of_heap (heap_old (o := .cells #[.int .i64 0, .slice (some ⟨b6, 0, none⟩) 1 c6, .slice none 0 0, .slice none 0 0, .int .i64 0] 107) HBx6.out)) (fun e => HBl6.out.elim (fun h => by rw [h] at e; cases e) (fun h => h e.symm))).trans (heap_old HBx6.out)⟩)
          have HRk := Lib.hid (fun (w7 w8 : World) (o : Obj) (rv' : Value) (h7 : WrtZ w t (fm + 1) fm vn (vn + 1) (vn + 1) rv' (.slice ra vn rc) w7) (hg : (w7.alloc o).grownBy w8 (Value.slice ra vn rc).ownBlock) => show w8.heap[fm + 1]? = some (.cells #[.int .i64 1, .slice none 0 0, .slice ra vn rc, .slice none 0 0, .int .i64 0] 107 (0, 0)) from
            (hg.block (fm + 1) (lt_of_heap (heap_old (o := o) h7.box)) (fun e => h7.own.ne_of h7.box (by decide) e.symm)).trans (heap_old h7.box))
          clear hL
          go_wp2_with (first
            | (at_builtin; refine app1 tyRec _ rfl (.tmp 94) (.tmp 99) rfl (fm + 1 + 1) _ Xr (0, (some ⟨b6, 0, none⟩, 1, c6), (none, 0, 0)) w6.heap.size rfl (by rfl) #[.int .i64 0, .slice (some ⟨b6, 0, none⟩) 1 c6, .slice none 0 0, .slice none 0 0, .int .i64 0] rfl (heap_alloc_new ..) HX4a.out (by simp; omega) (by omega) ?_; intro g7 cap7 w7 hown7 hbel7 hgr7; have HI7 := Lib.hid (HSt7.out g7 cap7 w7 hown7 hgr7).1; have HBx7 := Lib.hid (HSt7.out g7 cap7 w7 hown7 hgr7).2; have y1 : w7.cell? ⟨Bx, 1, none⟩ = some (.int .i64 t) := by { rw [cell_of_row w7 _ _ _ _ _ HBx7.out]; rfl }; have y2 : w7.cell? ⟨Bx, 2, none⟩ = some (.int .i64 v) := by { rw [cell_of_row w7 _ _ _ _ _ HBx7.out]; rfl }; have r2 : w7.cell? ⟨fm + 1, 2, none⟩ = some (.slice ra vn rc) := by { rw [cell_of_row w7 _ _ _ _ _ HI7.out.box]; rfl }; have hRl : fm + 1 + 1 ≤ w7.heap.size := lt_of_heap HI7.out.box; have HOA := Lib.hid (show OwnR 119 3 encRw w7 (fm + 1 + 1) (.slice ra vn rc) L from by { rw [HLe.out]; exact HI7.out.own }); clear hown7 hbel7 hgr7)
            | (at_builtin; refine app1 tyRow _ rfl (.tmp 102) (.tmp 109) rfl (fm + 1 + 1) _ L (t, (vn : Int), v) w7.heap.size rfl (by rfl) #[.int .i64 t, .int .i64 (vn : Int), .int .i64 v] rfl (heap_alloc_new ..) (HOA.out.below ((Below.refl _ _).alloc (Nat.le_refl _) _)) (by simp; omega) (by have := HLen.out; omega) ?_; intro g' cap' w8 hown8 hbel8 hgr8; have HP8 := HRk.out w7 w8 _ _ HI7.out hgr8; have HO8 := Lib.hid hown8; have HG8 := Lib.hid hgr8; have c8 : w8.cell? ⟨fm + 1, 2, none⟩ = some (.slice ra vn rc) := by { rw [cell_of_row w8 _ _ _ _ _ HP8]; rfl }; have f8 : w8.frozen? ⟨fm + 1, 2, none⟩ = false := Lib.frozen_of_heap HP8 2; clear hown8 hbel8 hgr8 HP8))
          have HI9 := Lib.hid (show WrtZ w t (fm + 1) fm (vn + 1) (vn + 1) (vn + 1) (.slice (some ⟨g7, 0, none⟩) (vn + 1) cap7) (.slice (some ⟨g', 0, none⟩) (vn + 1) cap') (w8.setCell ⟨fm + 1, 2, none⟩ (.slice (some ⟨g', 0, none⟩) (vn + 1) cap')) from by
            have h9 := HI7.out.addRow HG8.out (g := g') (cap := cap') (by
              rw [HRs.out, ← HLe.out]
              have := HO8.out
              rw [HLen.out] at this
              exact this)
            rw [HX5.out] at h9
            exact h9)
          clear c8 f8 HO8 HG8 r2 y1 y2 hlen5 x5
          go_roundw
          case rel => exact ⟨vn + 1, _, by go_num, by omega, HI9.out⟩
          case measure => simp [intOf]; omega
        · have hke : rn = 5 := by omega
          subst hke
          clear hlt hk
          have hlen := HI.out.keys.len
          have HLn := Lib.hid (idxLen_any (HD.out.ix.below HI.out.be))
          have x2 := HC2.out _ HI.out.be
          have b0 : wr.cell? ⟨fm + 1, 0, none⟩ = some (.int .i64 1) := by rw [cell_of_row wr _ _ _ _ _ HI.out.box]; rfl
          have b1 : wr.cell? ⟨fm + 1, 1, none⟩ = some (.slice none 0 0) := by rw [cell_of_row wr _ _ _ _ _ HI.out.box]; rfl
          have b2 : wr.cell? ⟨fm + 1, 2, none⟩ = some (.slice ra 5 rc) := by rw [cell_of_row wr _ _ _ _ _ HI.out.box]; rfl
          have b3 : wr.cell? ⟨fm + 1, 3, none⟩ = some (.slice none 0 0) := by rw [cell_of_row wr _ _ _ _ _ HI.out.box]; rfl
          have b4 : wr.cell? ⟨fm + 1, 4, none⟩ = some (.int .i64 0) := by rw [cell_of_row wr _ _ _ _ _ HI.out.box]; rfl
          have hszr := HI.out.be.size
          obtain ⟨Xr, x4, x5, x6⟩ := HI.out.recs
          obtain ⟨va, vn, vc, rfl⟩ := x4.isSl
          have hvn : vn = 5 := by rw [(x4.rowG.len).1, x5]
          subst hvn
          have HX4 := Lib.hid x4
          have HX6 := Lib.hid x6
          have HAl := Lib.hid (show Below wr.heap.size wr (wr.alloc (.cells #[.int .i64 1, .slice none 0 0, .slice ra 5 rc, .slice none 0 0, .int .i64 0] 107)) from (Below.refl _ _).alloc (Nat.le_refl _) _)
          have HX4a := Lib.hid (x4.below HAl.out)
          have HX5 := Lib.hid x5
          have hfml : fm + 1 + 1 ≤ wr.heap.size := lt_of_heap HI.out.box
          clear x4 x6
          go_wp2_with fail
          refine HLn.out.mono ?_
          rintro e w3 ⟨rfl, rfl⟩
          go_wp2_with (at_builtin; refine app1 tyRec _ rfl (.tmp 123) (.tmp 125) rfl (fm + 1 + 1) _ Xr (1, (none, 0, 0), (ra, 5, rc)) wr.heap.size rfl (by rfl) #[.int .i64 1, .slice none 0 0, .slice ra 5 rc, .slice none 0 0, .int .i64 0] rfl (heap_alloc_new ..) HX4a.out (by simp; omega) (by omega) ?_; intro g' cap' w4 hown4 hbel4 hgr4; have HO4 := Lib.hid hown4; have HG4 := Lib.hid hgr4; clear hown4 hbel4 hgr4)
          have hle4 : Below (fm + 1 + 1) wr w4 := ((Below.refl wr.heap.size wr).alloc (Nat.le_refl _) _ |>.mono hfml).grown HG4.out (by simp; omega) (fun b e => (World.ownsRow.lt HX4.out b e).1)
          have hbe4 : Below w.heap.size w w4 := HI.out.be.trans (hle4.mono (by have := HI.out.lo; omega))
          have HKp := Lib.hid (fun (α : Type) (tt k : Nat) (enc : α → List Value) (v : Value) (l : List α) (ho : OwnR tt k enc wr (fm + 1 + 1) v l) (hne : tt ≠ 107) => show OwnR tt k enc w4 w.heap.size v l from
            ownsRow_base ((ho.below ((Below.refl wr.heap.size wr).alloc (Nat.le_refl _) _)).kept HG4.out (OwnR.apart (ho.below ((Below.refl wr.heap.size wr).alloc (Nat.le_refl _) _)) HX4a.out hne)) (by have := HI.out.lo; omega))
          have HLg := Lib.hid (log_any base X d S I p hv FSb FI FP FH (fun _ => none) [] (0, []) (.slice (some ⟨g', 0, none⟩) 6 cap') (recsZ t) w.heap.size w4 (HD.out.below hbe4) (.inr ⟨rfl, rfl⟩)
            (by
              have hr5 : OwnR 119 3 encRw w4 w.heap.size (.slice ra 5 rc) (rowsAt t) := by
                have h7 := HKp.out _ _ _ _ _ _ HI.out.own (by decide)
                rw [show (rowsAt t).take 5 = rowsAt t from List.take_of_length_le (by simp [rowsAt])] at h7
                exact h7
              have ho4 : OwnR 107 5 encRec w4 w.heap.size (.slice (some ⟨g', 0, none⟩) 6 cap') (Xr ++ [(1, (none, 0, 0), (ra, 5, rc))]) := by
                have := ownsRow_base (b' := w.heap.size) HO4.out (by have := HI.out.lo; omega)
                rw [HX5.out] at this
                exact this
              refine ⟨_, ho4.ownE, by simp [HX5.out, recsZ], fun i hi => ?_⟩
              by_cases hi5 : i < 5
              · obtain ⟨b', c', e1, e2⟩ := HX6.out i hi5
                rw [recsZ_get hi5, List.getD_eq_getElem?_getD, List.getElem?_append_left (by rw [HX5.out]; exact hi5), ← List.getD_eq_getElem?_getD, e1]
                exact ⟨rfl, rfl, (HKp.out _ _ _ _ _ _ e2 (by decide)).ownE, hi5⟩
              · have hi6 : i = 5 := by simp [recsZ] at hi; omega
                subst hi6
                have e1 : (Xr ++ [((1 : Int), (((none, 0, 0) : SlV)), ((ra, 5, rc) : SlV))]).getD 5 rec0 = (1, (none, 0, 0), (ra, 5, rc)) := by
                  rw [← HX5.out]; simp [List.getD]
                have e2 : (recsZ t).getD 5 (.lab 0) = .rows (rowsAt t) := rfl
                rw [e1, e2]
                exact ⟨rfl, rfl, hr5.ownE, rowsAt_rowsOk h0 h1⟩)
            (fun k hk => by
              have hk6 : k < 6 := by simpa [recsZ] using hk
              rw [recsZ_run (by omega)]
              by_cases hk5 : k < 5
              · rw [recsZ_get hk5]; exact ⟨rfl, hk5⟩
              · have hk0 : k = 5 := by omega
                subst hk0
                exact HOk.start.okR (by simp) h0 h1 5)
            ⟨hXl, fun k hk => by
              rcases hk with hk | hk | hk | hk
              · exact HD.out.st.lt k hk
              · exact HD.out.ix.lt k hk
              · exact HD.out.po.lt k hk
              · exact HD.out.hd.lt k hk⟩
            (by rw [recsZ_len]; simp) (HST.out.below hbe4 (by have := HD.out.ge.1; omega)) hb0 (by simp [recsZ]) (by simp [recsZ]))
          have HBe4 := Lib.hid hbe4
          clear hlen HLn x2 b0 b1 b2 b3 b4 HAl HO4 hbe4 hle4 HG4 x5
          go_wp2_with fail
          refine HLg.out.mono ?_
          rintro e w5 ⟨rfl, hv5, FS5, FI5, FH5, t5, ht5, hd5, hb5⟩
          have HEnd := Lib.hid (show WriteA base X d S I p FP [t] w (.returned (.int .i64 0)) w5 from by
            refine ⟨rfl, ⟨hv5, FS5, FI5, FH5, _, .inr ⟨by simp, t5, ?_, ?_⟩, HOk.start.put h0 h1⟩, (HBe4.out.mono (by have := HD.out.ge.1; omega)).trans hb5⟩
            · rw [recsZ_len] at ht5; simpa using ht5
            · exact hd5)
          clear ht5 hd5 hb5
          go_wp2_with fail
          go_ret
          exact HEnd.out

end Go.Proofs.YtheenlomlmbjaaaGreatDoor

namespace Go.Proofs.YtheenlomlmbjaaaGreatDoor
open Go.RowKit Go.Maps

set_option maxRecDepth 1000000 in
set_option maxHeartbeats 4000000 in
theorem blockNew2_any (w : World) :
    Calls Tryz.prog 7 #[.int .i64 512] w fun e w' => e = .returned (.pointer (some ⟨w.heap.size + 1, 0, none⟩)) ∧ DiskOk w' (w.heap.size + 1) ∧ (∀ mm, w'.cell? ⟨w.heap.size + 1, 513, none⟩ = some (.map (some mm)) → mm = w.heap.size) ∧ Below w.heap.size w w' := by
  have hmm := @run_makeMap Tryz.prog
  have HM := Lib.hid (fun o => OMap.below (World.ownsMap_made w Tryz.prog 3 rawE) ((Below.refl _ _).alloc (Nat.le_refl _) o))
  go_enter Tryz.func7, Tryz.ntmps7
  go_wp2_with fail
  go_ret
  refine ⟨rfl, ⟨w.heap.size, ?_, ?_, ?_, ?_, ?_, HM.out _⟩, fun mm hm => ?_, ((Below.refl _ _).alloc (Nat.le_refl _) _).alloc (by simp) _⟩
  · rw [World.cell?_alloc_at _ _ _ _ (by simp)]; rfl
  · rw [World.cell?_alloc_at _ _ _ _ (by simp)]; rfl
  · rw [World.cell?_alloc_at _ _ _ _ (by simp)]; rfl
  · rw [World.cell?_alloc_at _ _ _ _ (by simp)]; rfl
  · rw [World.cell?_alloc_at _ _ _ _ (by simp)]; rfl
  · rw [World.cell?_alloc_at _ _ _ _ (by simp)] at hm
    have hm' : some (Value.map (some w.heap.size)) = some (Value.map (some mm)) := hm
    injection hm' with h; injection h with h; injection h with h
    exact h.symm
set_option maxRecDepth 100000 in
theorem polNew2_any (w : World) :
    Calls Tryz.prog 26 #[] w fun e w' => e = .returned (.pointer (some ⟨w.heap.size + 1, 0, none⟩)) ∧ w' = (w.alloc (.map #[] 0)).alloc (.cells #[.map (some w.heap.size)] 160) := by
  have hmm := @run_makeMap Tryz.prog
  go_enter Tryz.func26, Tryz.ntmps26
  go_wp2_with fail
  go_ret
  exact ⟨rfl, rfl⟩
theorem pol_keeps (w : World) : Keeps (fun k => w.heap.size ≤ k ∧ k < w.heap.size + 2) ((w.alloc (.map #[] 0)).alloc (.cells #[.map (some w.heap.size)] 160)) (fun w' => PolOk w' (w.heap.size + 1)) := by
  obtain ⟨h1, h2⟩ := heap2 w (.map #[] 0) (.cells #[.map (some w.heap.size)] 160)
  refine ⟨fun k hk => by simp; omega, fun w' hk => ⟨w.heap.size, ?_, ?_⟩⟩
  · have := (hk (w.heap.size + 1) ⟨by omega, by omega⟩).trans h2
    rw [cell_of_row w' _ _ _ _ _ this]; rfl
  · have := (hk w.heap.size ⟨by omega, by omega⟩).trans h1
    exact OMap.stay (World.ownsMap_made w _ _ _) (this.trans (heap_alloc_new w (.map #[] 0)).symm)

def OpenA (base d : Nat) (w : World) (e : Ending) (w' : World) : Prop := ∃ X S I p FP, e = .returned (.tuple #[.pointer (some ⟨X, 0, none⟩), .int .i64 0]) ∧ DbT base X d S I p FP [] w' ∧ Below w.heap.size w w'
set_option maxRecDepth 100000 in
set_option maxHeartbeats 4000000 in
theorem open_any (base d : Nat) (w : World) (h : DiskOk w d) (hdm : ∀ mm, w.cell? ⟨d, 513, none⟩ = some (.map (some mm)) → d ≤ mm + 1) (hb : base + 1 ≤ d) :
    Calls Tryz.prog 13 #[.pointer (some ⟨d, 0, none⟩)] w (OpenA base d w) := by
  have HF := Lib.hid (fopen_any d w h hdm)
  have HDl := Lib.hid (show d < w.heap.size by obtain ⟨m, h0, _⟩ := h; exact World.block_lt_of_cell? w _ h0)
  clear h hdm
  go_enter Tryz.func13, Tryz.ntmps13
  go_wp2_with fail
  refine HF.out.mono ?_
  rintro e w1 ⟨S, FSb, rfl, hs1, hsd, hb1, hSl⟩
  have HS1 := Lib.hid hs1
  have HB1 := Lib.hid hb1
  have HSd := Lib.hid hsd
  clear hs1 hb1 hsd HF
  go_wp2_with fail
  refine (idxNew_any w1).mono ?_
  rintro e w2 ⟨rfl, hi2, hz2, hb2⟩
  have HI2 := Lib.hid hi2
  have HZ2 := Lib.hid hz2
  have HB2 := Lib.hid hb2
  clear hi2 hz2 hb2
  go_wp2_with fail
  refine (polNew2_any w2).mono ?_
  rintro e w3 ⟨rfl, hw3⟩
  have HP3 := Lib.hid (show Keeps (fun k => w2.heap.size ≤ k ∧ k < w2.heap.size + 2) w3 (fun w' => PolOk w' (w2.heap.size + 1)) by rw [hw3]; exact pol_keeps w2)
  have HB3 := Lib.hid (show Below w2.heap.size w2 w3 by rw [hw3]; exact ((Below.refl _ _).alloc (Nat.le_refl _) _).alloc (by simp) _)
  have HZ3 := Lib.hid (show w3.heap.size = w2.heap.size + 2 by rw [hw3]; simp)
  clear hw3
  go_wp2_with fail
  have hA : Below w3.heap.size w3 (w3.alloc (.cells (dbC d S (w1.heap.size + 2) (w2.heap.size + 1) (.slice none 0 0) 0 (.slice none 0 0)) 95)) := (Below.refl _ _).alloc (Nat.le_refl _) _
  have HXn := Lib.hid (show (w3.alloc (.cells (dbC d S (w1.heap.size + 2) (w2.heap.size + 1) (.slice none 0 0) 0 (.slice none 0 0)) 95)).heap[w3.heap.size]? = some (.cells (dbC d S (w1.heap.size + 2) (w2.heap.size + 1) (.slice none 0 0) 0 (.slice none 0 0)) 95 (0, 0)) from heap_alloc_new ..)
  have HA := Lib.hid hA
  clear hA
  unfold dbC at HA HXn
  generalize hW : w3.alloc (.cells #[.pointer (some ⟨d, 0, none⟩), .pointer (some ⟨S, 0, none⟩), .pointer (some ⟨w1.heap.size + 2, 0, none⟩), .slice none 0 0, .int .i64 0, .int .i64 0, .bool false, .int .i64 0, .int .i64 0, .int .i64 0, .slice none 0 0, .slice none 0 0, .int .i64 0, .pointer (some ⟨w2.heap.size + 1, 0, none⟩), .pointer none] 95) = W at *
  clear hW
  obtain ⟨X, hX⟩ : ∃ X, X = w3.heap.size := ⟨_, rfl⟩
  rw [← hX] at HXn ⊢
  have hsz1 := HB1.out.size
  have HD := Lib.hid (show Db base W X d S (w1.heap.size + 2) (w2.heap.size + 1) (.slice none 0 0) FSb (fun k => w1.heap.size ≤ k ∧ k < w1.heap.size + 3) (fun k => w2.heap.size ≤ k ∧ k < w2.heap.size + 2) (fun _ => False) (fun _ => none) 0 [] from by
    have hb12 : Below w1.heap.size w1 W := HB2.out.trans ((HB3.out.trans (HA.out.mono HB3.out.size)).mono HB2.out.size)
    have hb23 : Below w2.heap.size w2 W := HB3.out.trans (HA.out.mono HB3.out.size)
    have hlt := HS1.out.lt
    have z2 := HZ2.out
    have z3 := HZ3.out
    have hdl := HDl.out
    have hsz := HB1.out.size
    exact ⟨HXn.out, HS1.out.below hb12, HI2.out.below hb23, HP3.out.below HA.out, ⟨fun k hk => hk.elim, fun w' _ => ⟨[], rfl, RowG.nil _, by simp⟩⟩, fun e => by have := hlt X e; omega, fun e => by omega, fun e => by omega, fun e => e, fun k h1 h2 => by have := hlt k h1; omega, fun k h1 h2 => by have := hlt k h1; omega, fun k h1 h2 => h2, fun k h1 h2 => by omega, fun k h1 h2 => h2, FsOk.start, by omega, fun k hk => by
      rcases hk with hk | hk | hk | hk
      · have := HSd.out k hk; omega
      · omega
      · omega
      · exact hk.elim⟩)
  have HBW := Lib.hid (show Below w.heap.size w W from HB1.out.trans ((HB2.out.trans ((HB3.out.trans (HA.out.mono HB3.out.size)).mono HB2.out.size)).mono HB1.out.size))
  have HXw := Lib.hid (show w.heap.size ≤ X by have := HB1.out.size; have := HZ2.out; have := HZ3.out; omega)
  have HR1 := Lib.hid (readF_no (f := fun _ => none) HD.out.st.ok (nm := manNm) (by decide) rfl)
  have HR2 := Lib.hid (readF_no (f := fun _ => none) HD.out.st.ok (nm := idxNm) (by decide) rfl)
  unfold manNm at HR1
  unfold idxNm at HR2
  have c5 : W.cell? ⟨X, 5, none⟩ = some (.int .i64 0) := by rw [cell_of_row W _ _ _ _ _ HXn.out]; rfl
  have c12 : W.cell? ⟨X, 12, none⟩ = some (.int .i64 0) := by rw [cell_of_row W _ _ _ _ _ HXn.out]; rfl
  have f12 := Lib.frozen_of_heap HXn.out 12
  clear HS1 HI2 HP3 HZ2 HZ3 HB2 HB3 HA HSd HDl hX hSl hsz1
  refine HR1.out.mono ?_
  rintro e w9 ⟨rfl, rfl⟩
  go_wp2_with fail
  refine HR2.out.mono ?_
  rintro e w9 ⟨rfl, rfl⟩
  have HD2 := Lib.hid (show Db base (W.setCell ⟨X, 12, none⟩ (.int .i64 0)) X d S (w1.heap.size + 2) (w2.heap.size + 1) (.slice none 0 0) FSb (fun k => w1.heap.size ≤ k ∧ k < w1.heap.size + 3) (fun k => w2.heap.size ≤ k ∧ k < w2.heap.size + 2) (fun _ => False) (fun _ => none) 0 [] from
    HD.out.head (Out.setCell W ⟨X, 12, none⟩ _) (by rw [heap_setC HXn.out]; rfl) (HD.out.hd.out (Out.setCell W ⟨X, 12, none⟩ _) (fun k hk => hk.elim)) (fun k hk => hk.elim))
  have HB2 := Lib.hid (show Below w.heap.size w (W.setCell ⟨X, 12, none⟩ (.int .i64 0)) from HBW.out.setCell HXw.out _)
  clear HR1 HR2
  go_wp2_with fail
  generalize W.setCell ⟨X, 12, none⟩ (.int .i64 0) = W2 at *
  clear c5 c12 f12 HD HBW HXn
  refine (replay0 W2 HD2.out.st.ok rfl).mono ?_
  rintro e w9 ⟨rfl, hb9⟩
  have HD9 := Lib.hid (HD2.out.below hb9)
  have HB9 := Lib.hid (HB2.out.trans (hb9.mono HB2.out.size))
  obtain ⟨-, -, -, -, -, -, c6, -⟩ := dbC_cells HD9.out.x
  clear hb9
  go_wp2_with fail
  refine wp_loop_rounds 1 ?_
  rw [rounds_succ]
  go_wp2_with fail
  go_ret2
  exact ⟨X, S, _, _, _, rfl, ⟨_, _, _, _, [], .inl ⟨rfl, HD9.out, rfl⟩, HOk.start⟩, HB9.out⟩

end Go.Proofs.YtheenlomlmbjaaaGreatDoor

namespace Go.Proofs.YtheenlomlmbjaaaGreatDoor
open Go.RowKit Go.Maps

def LabB (w : World) (b k : Nat) : Prop := w.heap[b]? = some (.cells #[.string (bs [97]), .string (bs (lettB k))] 53 (0, 0))
theorem LabB.row {w : World} {b k : Nat} (h : LabB w b k) : RowG 2 encL2 w (.slice (some ⟨b, 0, none⟩) 1 1) (oneL k) := RowG.ofHeap h rfl rfl (by omega)
theorem LabB.tyB {w : World} {b k : Nat} (h : LabB w b k) : TyB w b 53 := ⟨_, _, h⟩
theorem one_lab (k : Nat) (w : World) (hk : k < 8) :
    Calls Tryz.prog 5 #[.int .i64 k] w fun e w' => ∃ b, e = .returned (.slice (some ⟨b, 0, none⟩) 1 1) ∧ LabB w' b k ∧ Below w.heap.size w w' :=
  (one_any' k w hk).mono fun e w' ⟨h1, h2⟩ => ⟨_, h1, by rw [h2]; exact heap_alloc_new .., by rw [h2]; exact (Below.refl _ _).alloc (Nat.le_refl _) _⟩
def PtsO (B : Nat) (w : World) (v : Value) (t : Int) (P : List Po) (m : Nat) : Prop := OwnR 58 3 encPo w B v P ∧ P.length = m ∧ ∀ k, k < m → ∃ b, P.getD k ((none, 0, 0), 0, 0) = ((some ⟨b, 0, none⟩, 1, 1), t, t * 10 + (k : Int)) ∧ LabB w b k
theorem PtsO.start (B : Nat) (w : World) (t : Int) (hB : B ≤ w.heap.size) : PtsO B (w.alloc (.cells #[] 58)) (.slice (some ⟨w.heap.size, 0, none⟩) 0 0) t [] 0 := ⟨OwnR.fresh w hB, rfl, fun k hk => by omega⟩
theorem PtsO.below {B m : Nat} {w w' : World} {v : Value} {t : Int} {P : List Po} (h : PtsO B w v t P m) (hb : Below w.heap.size w w') : PtsO B w' v t P m :=
  ⟨h.1.below hb, h.2.1, fun k hk => by obtain ⟨b, e1, e2⟩ := h.2.2 k hk; exact ⟨b, e1, (hb.block b (lt_of_heap e2)).trans e2⟩⟩
theorem PtsO.ptsV {B m : Nat} {w : World} {v : Value} {t : Int} {P : List Po} (h : PtsO B w v t P m) : PtsV w v t m :=
  ⟨P, h.1.rowG, h.2.1, fun k hk => by
    obtain ⟨b, e1, e2⟩ := h.2.2 k hk
    rw [e1]
    exact ⟨by rw [show t * 10 + (k : Int) = 10 * t + (k : Int) by omega], e2.row⟩⟩
theorem PtsO.add {B m b : Nat} {w w2 w3 : World} {v v' : Value} {t : Int} {P : List Po} {o : Obj} (h : PtsO B w v t P m) (hb : Below w.heap.size w w2) (hl : LabB w2 b m) (hg : (w2.alloc o).grownBy w3 v.ownBlock)
    (hown : OwnR 58 3 encPo w3 B v' (P ++ [((some ⟨b, 0, none⟩, 1, 1), t, t * 10 + (m : Int))])) : PtsO B w3 v' t (P ++ [((some ⟨b, 0, none⟩, 1, 1), t, t * 10 + (m : Int))]) (m + 1) := by
  have h2 := (h.below hb).below ((Below.refl w2.heap.size w2).alloc (Nat.le_refl _) o)
  have hne : ∀ b k, LabB (w2.alloc o) b k → LabB w3 b k := fun b k hk => (hg.block b (lt_of_heap hk) (fun e => (hk.tyB.ne (h2.1.tyB e.symm) (by decide)) rfl)).trans hk
  refine ⟨hown, by simp [h.2.1], fun k hk => ?_⟩
  by_cases e : k < m
  · obtain ⟨b', e1, e2⟩ := h2.2.2 k e
    refine ⟨b', ?_, hne _ _ e2⟩
    rw [List.getD_eq_getElem?_getD, List.getElem?_append_left (by rw [h.2.1]; exact e), ← List.getD_eq_getElem?_getD]; exact e1
  · have ek : k = m := by omega
    subst ek
    refine ⟨b, ?_, hne _ _ (heap_old hl)⟩
    have := h.2.1
    rw [← this]; simp [List.getD]

def WrAt (base d x : Nat) (ts : List Int) (w0 w : World) : Prop := ∃ S I p FP, DbT base x d S I p FP ts w ∧ Below base w0 w
theorem DbT.below {base X d S I p : Nat} {FP : Bl} {ts : List Int} {w w' : World} (h : DbT base X d S I p FP ts w) (hb : Below w.heap.size w w') : DbT base X d S I p FP ts w' := by
  obtain ⟨hv, FSb, FI, FH, H, h1, h2⟩ := h
  refine ⟨hv, FSb, FI, FH, H, ?_, h2⟩
  rcases h1 with ⟨a, b, c⟩ | ⟨a, was, b, c⟩
  · exact .inl ⟨a, b.below hb, c⟩
  · exact .inr ⟨a, was, b, c.below hb⟩
theorem WrAt.below {base d x : Nat} {ts : List Int} {w0 w w' : World} (h : WrAt base d x ts w0 w) (hb : Below w.heap.size w w') (h0 : base ≤ w0.heap.size) : WrAt base d x ts w0 w' := by
  obtain ⟨S, I, p, FP, h1, h2⟩ := h
  exact ⟨S, I, p, FP, h1.below hb, h2.trans (hb.mono (Nat.le_trans h0 h2.size))⟩
theorem WrAt.be {base d x : Nat} {ts : List Int} {w0 w : World} (h : WrAt base d x ts w0 w) : Below base w0 w := by obtain ⟨S, I, p, FP, h1, h2⟩ := h; exact h2
theorem write_any (base X d S I p : Nat) (FP : Bl) (ts : List Int) (t : Int) (pv : Value) (w : World) (h : DbT base X d S I p FP ts w) (hl : ts.length < 12) (hp : PtsV w pv t 5) (h0 : 0 ≤ t) (h1 : t ≤ 3072) (hst : StepsOk w 0) (hb0 : 0 < base) :
    Calls Tryz.prog 14 #[.pointer (some ⟨X, 0, none⟩), pv] w (WriteA base X d S I p FP (ts ++ [t]) w) := by
  obtain ⟨hv, FSb, FI, FH, H, h2, h3⟩ := h
  rcases h2 with ⟨rfl, b, rfl⟩ | ⟨a, was, b, c⟩
  · exact writeZ_any base X d S I p hv FSb FI FP FH t pv w b hp h0 h1 hst hb0
  · exact writeA_any base X d S I p hv FSb FI FP FH was H ts t pv w c h3 hl b hp h0 h1 hst hb0
def WrittenA (base d : Nat) (ts : List Int) (w : World) (e : Ending) (w' : World) : Prop := ∃ x, e = .returned (.pointer (some ⟨x, 0, none⟩)) ∧ WrAt base d x ts w w'
set_option maxRecDepth 100000 in
set_option maxHeartbeats 4000000 in
attribute [local go_sem ↓] Go.wp_at_zero Go.wp_at_succ in
theorem written_any (base d : Nat) (tv : Value) (ts : List Int) (w : World) (h : DiskOk w d) (hdm : ∀ mm, w.cell? ⟨d, 513, none⟩ = some (.map (some mm)) → d ≤ mm + 1) (hb : base + 1 ≤ d) (hts : ∀ W, Below base w W → RowG 1 encI W tv ts) (hT : TimesOk ts) (hst : StepsOk w 0) (hb0 : 0 < base) :
    Calls Tryz.prog 6 #[.pointer (some ⟨d, 0, none⟩), .int .i64 5, tv] w (WrittenA base d ts w) := by
  have HO := Lib.hid (open_any base d w h hdm hb)
  have HDl := Lib.hid (show d < w.heap.size by obtain ⟨m, h0, _⟩ := h; exact World.block_lt_of_cell? w _ h0)
  have HTs := Lib.hid hts
  have HT := Lib.hid hT
  have HSt := Lib.hid (fun (W : World) (hb : Below base w W) => hst.below hb hb0)
  obtain ⟨ta, tc, htv, -⟩ := hts w (Below.refl _ _)
  obtain ⟨n, hn⟩ : ∃ n, n = ts.length := ⟨_, rfl⟩
  rw [← hn] at htv
  have hn12 : n ≤ 12 := by rw [hn]; exact hT.len
  have HN := Lib.hid hn
  subst htv
  clear h hdm hts hT hst hn
  go_enter Tryz.func6, Tryz.ntmps6
  go_wp2_with fail
  refine HO.out.mono ?_
  rintro e w1 ⟨X, S, I, p, FP, rfl, hd1, hb1⟩
  have HW1 := Lib.hid (show WrAt base d X (ts.take 0) w w1 from ⟨S, I, p, FP, hd1, hb1.mono (by have := HDl.out; omega)⟩)
  have HBase := Lib.hid (show base ≤ w.heap.size by have := HDl.out; omega)
  clear hd1 hb1 HO
  go_wp2_with fail
  go_loopw [9] (fun i wr => ∃ k : Nat, i = .int .i64 k ∧ k ≤ n ∧ WrAt base d X (ts.take k) w wr) (fun i _ => n - (intOf i).toNat)
  case atStart => exact ⟨0, rfl, Nat.zero_le _, HW1.out⟩
  case round =>
    clear HW1
    obtain ⟨k, rfl, hk, hI⟩ := hrel
    have HI := Lib.hid hI
    clear hI
    by_cases hlt : k < n
    · have hki : (k : Int) < (n : Int) := by omega
      obtain ⟨b, off, rfl, hbs, hc⟩ := (HTs.out wr HI.out.be).at_ (fun _ => rfl) 0 (i := k) (by rw [← HN.out]; exact hlt)
      have hT := HT.out.lo (ts.getD k 0) (by rw [List.getD_eq_getElem?_getD, List.getElem?_eq_getElem (by rw [← HN.out]; exact hlt)]; exact List.getElem_mem _)
      have HTk := Lib.hid (snoc_take ts (0 : Int) (by rw [← HN.out]; exact hlt))
      have c0 := hc 0 (by simp [encI])
      simp only [encI, Nat.mul_one, Nat.add_zero, List.getElem?_cons_zero] at c0
      have HTc := Lib.hid (fun (W : World) (hb : Below base w W) => show W.cell? ⟨b, off + k, none⟩ = some (.int .i64 (ts.getD k 0)) from by
        obtain ⟨b', off', e, -, h9⟩ := (HTs.out W hb).at_ (fun _ => rfl) 0 (i := k) (by rw [← HN.out]; exact hlt)
        obtain ⟨rfl, rfl⟩ : b = b' ∧ off = off' := by simp only [Option.some.injEq, Addr.mk.injEq] at e; exact ⟨e.1, e.2.1⟩
        have := h9 0 (by simp [encI])
        simpa [encI] using this)
      obtain ⟨t, ht⟩ : ∃ t, t = ts.getD k 0 := ⟨_, rfl⟩
      rw [← ht] at hT HTk c0 HTc
      have HP0 := Lib.hid (PtsO.start wr.heap.size wr t (Nat.le_refl _))
      have HI1 := Lib.hid ((Below.refl wr.heap.size wr).alloc (Nat.le_refl _) (.cells #[] 58))
      obtain ⟨ht0, ht1⟩ := hT
      clear hc c0 hbs ht
      rename World => wo
      go_wp2_with fail
      generalize hW : wo.alloc (.cells #[] 58) = W at *
      clear hW
      go_loopw [10, 11] (fun pv kv wq => ∃ (m : Nat) (P : List Po), kv = .int .i64 m ∧ m ≤ 5 ∧ PtsO wo.heap.size wq pv t P m ∧ Below wo.heap.size wo wq) (fun _ kv _ => 5 - (intOf kv).toNat)
      case atStart => exact ⟨0, [], rfl, Nat.zero_le _, HP0.out, HI1.out⟩
      case round =>
        clear HP0 HI1
        have HIo := HI
        clear HI
        rename_i pv _
        obtain ⟨m, P, rfl, hm, hP, hI⟩ := hrel
        have HP := Lib.hid hP
        have HBo := Lib.hid hI
        have HI := Lib.hid (HIo.out.below hI HBase.out)
        clear hI
        obtain ⟨pa, pn, pc, rfl⟩ := hP.1.isSl
        have hpn : pn = m := by rw [(hP.1.rowG.len).1, hP.2.1]
        subst hpn
        have HPl := Lib.hid hP.2.1
        clear hP
        by_cases hl5 : pn < 5
        · have hmi : (pn : Int) < 5 := by omega
          have HBq := Lib.hid HI.out.be
          have HCk := Lib.hid (fun (W : World) (hb : Below wr.heap.size wr W) => HTc.out W (HBq.out.trans (hb.mono (by have := HBase.out; have := HBq.out.size; omega))))
          have hq := HCk.out wr (Below.refl _ _)
          have h1 := fun (W : World) => one_lab pn W (by omega)
          have hlq := World.block_lt_of_cell? wr _ hq
          have HOn := Lib.hid h1
          clear h1
          have hw1 : IntKind.i64.wrap (t * 10) = t * 10 := IntWalk.i64_in _ (by omega)
          have hw2 : IntKind.i64.wrap (t * 10 + (pn : Int)) = t * 10 + (pn : Int) := IntWalk.i64_in _ (by omega)
          go_upto_region 11 with (fail)
          go_region_law (first
            | (refine stepApp1 tyPo _ (by rfl) (.tmp 31) (.tmp 46) (by rfl) wo.heap.size (.slice pa pn pc) P ((some ⟨b2, 0, none⟩, 1, 1), t, t * 10 + (pn : Int)) w2.heap.size (by rfl) (by rfl) #[.slice (some ⟨b2, 0, none⟩) 1 1, .int .i64 t, .int .i64 (t * 10 + (pn : Int))] rfl (heap_alloc_new ..) ((HP.out.below hb2').1.below ((Below.refl _ _).alloc (Nat.le_refl _) _)) (by have := HBo.out.size; have := hb2'.size; simp; omega) (by have := HPl.out; omega) ?_; intro g cap' w3 hown hbel hgrow hnewg)
            | (go_simp; go_wp2_with (go_at_call 5; go_loud (refine (HOn.out _).mono ?_; rintro e w2 ⟨b2, rfl, hl2, hb2⟩; have hb2' : Below wr.heap.size wr w2 := (by first | exact hb2 | exact (Below.refl _ _).drew.trans hb2); have q2 := HCk.out _ hb2'; have l2 := World.block_lt_of_cell? w2 _ q2))))
          all_goals
            (have HEnd := Lib.hid (show PtsO wo.heap.size w3 (.slice (some ⟨g, 0, none⟩) (pn + 1) cap') t (P ++ [((some ⟨b2, 0, none⟩, 1, 1), t, t * 10 + (pn : Int))]) (pn + 1) ∧ Below wo.heap.size wo w3 from by
               refine ⟨(HP.out).add hb2' hl2 hgrow (by rw [HPl.out] at hown; exact hown), ?_⟩
               have h9 := HBo.out.trans (hb2'.mono HBo.out.size)
               exact (h9.alloc h9.size _).grown hgrow (h9.alloc h9.size _).size (fun b e => (World.ownsRow.lt HP.out.1 b e).1))
             have hsz := HPl.out
             rw [hsz]
             clear hown hbel hgrow hnewg hb2 hb2' q2 l2 hl2 hq hlq hsz
             go_wp2_with fail
             go_roundw
             case rel => exact ⟨pn + 1, _, by go_num, by omega, HEnd.out.1, HEnd.out.2⟩
             case measure => simp [intOf]; omega)
        · have hke : pn = 5 := by omega
          subst hke
          clear hl5 hm
          have HWr := Lib.hid (show Calls Tryz.prog 14 #[.pointer (some ⟨X, 0, none⟩), .slice pa 5 pc] wr (fun e w' => e = .returned (.int .i64 0) ∧ WrAt base d X (ts.take (k + 1)) w w') from by
            obtain ⟨S, I, p, FP, h1, h2⟩ := HI.out
            refine (write_any base X d S I p FP (ts.take k) t (.slice pa 5 pc) wr h1 (by rw [List.length_take]; omega) HP.out.ptsV ht0 ht1 (HSt.out _ h2) hb0).mono ?_
            rintro e w' ⟨rfl, h3, h4⟩
            rw [← HTk.out] at h3
            exact ⟨rfl, S, I, p, FP, h3, h2.trans h4⟩)
          go_wp2_with fail
          refine HWr.out.mono ?_
          rintro e w5 ⟨rfl, hI5⟩
          have HI5 := Lib.hid hI5
          clear hI5 HWr
          go_wp2_with fail
          go_roundw
          case rel => exact ⟨k + 1, by go_num, by omega, HI5.out⟩
          case measure => simp [intOf]; omega
    · have hke : k = n := by omega
      subst hke
      have HI2 := Lib.hid (show WrAt base d X ts w wr from by have := HI.out; rw [show ts.take k = ts from by rw [HN.out, List.take_length]] at this; exact this)
      clear hlt hk HI
      go_wp2_with fail
      go_ret
      exact ⟨X, rfl, HI2.out⟩

end Go.Proofs.YtheenlomlmbjaaaGreatDoor
