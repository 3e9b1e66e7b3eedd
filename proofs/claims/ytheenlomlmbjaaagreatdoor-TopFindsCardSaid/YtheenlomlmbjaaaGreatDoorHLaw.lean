/-
  TopFinds: the walk of the law.
-/
import Derived.Test.YtheenlomlmbjaaaGreatDoorHFlush
import Derived.Test.YtheenlomlmbjaaaGreatDoorGWr6
import Derived.Test.YtheenlomlmbjaaaGreatDoorGQuery
set_option linter.unusedSimpArgs false
set_option linter.unusedVariables false
namespace Go.Proofs.YtheenlomlmbjaaaGreatDoor
open Go.RowKit Go.Maps

theorem db_qst {base X d S I p : Nat} {hv : Value} {FSb FI FP FH : Bl} {f : Fs} {n : Nat} {H : List Ser} {w : World} (h : Db base w X d S I p hv FSb FI FP FH f n H) : QSt w X S p (.slice none 0 0) [] f := by
  obtain ⟨-, c1, -, c3, -, -, c6, -, -, -, c13, -⟩ := dbC_cells h.x
  exact ⟨c1, c3, c6, c13, h.st.ok, h.po.now, RowG.nil _, (fun q hq => by cases hq), by simp⟩
theorem fw_wal (was : Bytes) : Fw was walNm = some was := by unfold Fw setFs; rw [if_pos rfl]
theorem db_rest {base X d S I p : Nat} {hv : Value} {FSb FI FP FH : Bl} {was : Bytes} {H : List Ser} {ts : List Int} {w : World} (h : Db base w X d S I p hv FSb FI FP FH (Fw was) 5 H) (hH : HOk ts H) (hT : TimesOk ts) :
    Calls Tryz.prog 12 #[.pointer (some ⟨X, 0, none⟩)] w fun e w' => e = .returned (.bool true) ∧ Below base w w' :=
  rest_any base X S p _ _ (Fw was) w (db_qst h) (by rw [fw_wal]; rfl) (Nat.le_trans h.ge.1 (Nat.le_of_lt (lt_of_heap h.x))) (fun W hb => flush_any base X d S I p hv FSb FI FP FH was (Fw was) H ts W (h.below hb) (fw_wal was) hH hT)
def IdxA (N I k : Nat) (w0 w : World) : Prop := ∃ F, IdxL F w I k ∧ (∀ j, F j → N ≤ j) ∧ Below N w0 w

set_option maxRecDepth 100000 in
set_option maxHeartbeats 4000000 in
attribute [local go_sem ↓] Go.wp_at_zero Go.wp_at_succ in
theorem finds_walk (raw : Value) (n : Nat) (x : Bytes) (kd : Nat) (w : World) (hr : bytesRow' w raw n) (hk : kd < 256) (hst : StepsOk w 0) (hw : 0 < w.heap.size) :
    Calls Tryz.prog 3 #[raw, .string (bs x), .int .u8 kd] w fun e w' => e = .returned (.bool true) ∧ Below w.heap.size w w' := by
  by_cases hx : x.length ≤ 1024
  · have hx1 : ¬ (1024 : Int) < (x.length : Int) := by omega
    have HRi := Lib.hid (rising_any raw n w hr)
    have HSt := Lib.hid hst
    clear hr hst
    go_enter Tryz.func3, Tryz.ntmps3
    go_wp2_with fail
    refine HRi.out.mono ?_
    rintro e w1 ⟨u, ts, rfl, hu, hT, -, hb1⟩
    obtain ⟨ua, un, uc, rfl⟩ := hu.isSl
    have hun : un = ts.length := (hu.rowG.len).1
    have HUn := Lib.hid hun
    have HU := Lib.hid hu
    have HT := Lib.hid hT
    have HB1 := Lib.hid hb1
    have hu12 : un ≤ 12 := by rw [hun]; exact hT.len
    clear hun hu hb1 HRi
    by_cases h0 : un = 0
    · subst h0
      have HOn := Lib.hid (fun (W : World) => one_lab 3 W (by omega))
      go_wp2_with fail
      refine (HOn.out _).mono ?_
      rintro e w2 ⟨b, rfl, -, hb2⟩
      have HEnd := Lib.hid (HB1.out.trans (hb2.mono HB1.out.size))
      clear hb2
      go_wp2_with fail
      go_ret
      exact ⟨rfl, HEnd.out⟩
    · have h0' : ¬ ((un : Int) = 0) := by omega
      have HNe := Lib.hid (show ts ≠ [] from fun e => h0 (by rw [HUn.out, e]; rfl))
      go_wp2_with fail
      refine (blockNew2_any w1).mono ?_
      rintro e w2 ⟨rfl, hd2, hm2, hb2⟩
      have HD2 := Lib.hid hd2
      have HM2 := Lib.hid hm2
      have HB2 := Lib.hid hb2
      have HWr := Lib.hid (written_any w1.heap.size (w1.heap.size + 1) (.slice ua un uc) ts w2 hd2 (fun mm hm => by have := hm2 mm hm; omega) (Nat.le_refl _) (fun W hW => HU.out.rowG.below (hb2.trans hW)) HT.out ((HSt.out.below HB1.out hw).below hb2 (by have := HB1.out.size; omega)) (by have := HB1.out.size; omega))
      clear hd2 hm2 hb2
      go_wp2_with fail
      refine HWr.out.mono ?_
      rintro e w3 ⟨X, rfl, S, I, p, FP, hdb, hb3⟩
      obtain ⟨hv, FSb, FI, FH, H, hdb, hH⟩ := hdb
      obtain ⟨was, hD⟩ : ∃ was, Db w1.heap.size w3 X (w1.heap.size + 1) S I p hv FSb FI FP FH (Fw was) 5 H := by
        rcases hdb with ⟨e, -⟩ | ⟨-, was, -, h2⟩
        · exact absurd e HNe.out
        · exact ⟨was, h2⟩
      have HD := Lib.hid hD
      have HH := Lib.hid hH
      have HB3 := Lib.hid (HB2.out.trans hb3)
      clear hdb hD hH hb3 HWr HD2 HM2 HB2
      go_wp2_with fail
      refine (idxNew_any w3).mono ?_
      rintro e w4 ⟨rfl, hi4, hz4, hb4⟩
      have HI4 := Lib.hid (show IdxA w3.heap.size (w3.heap.size + 2) 0 w3 w4 from ⟨_, hi4, fun j hj => hj.1, hb4⟩)
      obtain ⟨Y, hY⟩ : ∃ Y, Y = w3.heap.size + 2 := ⟨_, rfl⟩
      rw [← hY] at HI4 ⊢
      clear hi4 hz4 hb4 hY
      have HB34 := Lib.hid (HB1.out.trans (HB3.out.mono HB1.out.size))
      have hws : w.heap.size ≤ w1.heap.size := HB1.out.size
      have hw3s : w1.heap.size ≤ w3.heap.size := HB3.out.size
      go_wp2_with fail
      go_loopw [10] (fun v wq => ∃ k : Nat, v = .int .i64 k ∧ k ≤ 5 ∧ IdxA w3.heap.size Y k w3 wq) (fun v _ => 5 - (intOf v).toNat)
      case atStart => exact ⟨0, rfl, Nat.zero_le _, HI4.out⟩
      case round =>
        clear HI4
        obtain ⟨k, rfl, hk5, hI⟩ := hrel
        have HI := Lib.hid hI
        by_cases hlt : k < 5
        · have hki : (k : Int) < 5 := by omega
          obtain ⟨F, hF, hFN, hFB⟩ := hI
          have HF := Lib.hid hF
          have HFN := Lib.hid hFN
          have HFB := Lib.hid hFB
          clear hF hFN hFB
          go_wp2_with fail
          refine (one_any' k wr (by omega)).mono ?_
          rintro e w5 ⟨rfl, hw5⟩
          have HLb := Lib.hid (show LabB w5 wr.heap.size k by rw [hw5]; exact heap_alloc_new ..)
          have HB5 := Lib.hid (show Below wr.heap.size wr w5 by rw [hw5]; exact (Below.refl _ _).alloc (Nat.le_refl _) _)
          have HAdd := Lib.hid (add_any F Y k (.slice (some ⟨wr.heap.size, 0, none⟩) 1 1) w5 (HF.out.below HB5.out) (by omega) HLb.out.row (fun b o s m c e hb => by
            have h1 := HF.out.lt b hb
            simp only [Value.slice.injEq, Option.some.injEq, Addr.mk.injEq] at e
            omega))
          clear hw5
          go_wp2_with fail
          refine HAdd.out.mono ?_
          rintro e w6 ⟨rfl, F6, hi6, hs6⟩
          have HI6 := Lib.hid (show IdxA w3.heap.size Y (k + 1) w3 w6 from by
            have hsz : w3.heap.size ≤ w5.heap.size := Nat.le_trans HFB.out.size HB5.out.size
            refine ⟨F6, hi6, fun j hj => ?_, (HFB.out.trans (HB5.out.mono HFB.out.size)).trans (hs6.out.below (fun j hj h => by have := HFN.out j h; omega) hsz)⟩
            rcases hs6.sub j hj with h | h
            · exact HFN.out j h
            · omega)
          clear hi6 hs6 HAdd HLb
          go_wp2_with fail
          go_roundw
          case rel => exact ⟨k + 1, by go_num, by omega, HI6.out⟩
          case measure => simp [intOf]; omega
        · have hke : k = 5 := by omega
          subst hke
          clear hlt hk5 hI
          rw [show ((5 : Nat) : Int) = 5 from rfl]
          obtain ⟨kk, hkk⟩ : ∃ kk, kk = kd % 3 := ⟨_, rfl⟩
          have hk3 : kk = 0 ∨ kk = 1 ∨ kk = 2 := by omega
          have htm : (kd : Int) % 3 = (kk : Int) := by omega
          have hkI : (kk : Int) = 0 ∨ (kk : Int) = 1 ∨ (kk : Int) = 2 := by omega
          obtain ⟨F, hF, -, hFB⟩ := HI.out
          have HMh := Lib.hid (heap_alloc_new wr (.cells #[.int .i64 (kk : Int), .string (bs [97]), .string (bs x), .slice none 0 0] 38))
          have HMb := Lib.hid (show Below wr.heap.size wr (wr.alloc (.cells #[.int .i64 (kk : Int), .string (bs [97]), .string (bs x), .slice none 0 0] 38)) from (Below.refl _ _).alloc (Nat.le_refl _) _)
          have HF5 := Lib.hid (fun (W : World) (hb : Below wr.heap.size wr W) => hF.below hb)
          have HD5 := Lib.hid (HD.out.below hFB)
          have HFB := Lib.hid hFB
          clear hF hFB HI HD hkk
          go_upto_region 17 with (fail)
          clear htm
          generalize wr.alloc (.cells #[.int .i64 (kk : Int), .string (bs [97]), .string (bs x), .slice none 0 0] 38) = wM at *
          obtain ⟨B, hB⟩ : ∃ B, B = wr.heap.size := ⟨_, rfl⟩
          rw [← hB] at HMh ⊢
          have HMat := Lib.hid (show MatV wM B 0 kk x from by
            refine ⟨?_, ?_, ?_, ?_⟩ <;> (rw [cell_of_row wM _ _ _ _ _ HMh.out]; rfl))
          have HSel := Lib.hid (select_any F Y 5 kk x B 0 1 wM (HF5.out wM HMb.out) (by omega) (by omega) (by omega) hkI (Nat.le_refl _) (by omega) HMat.out.1 HMat.out.2.1 HMat.out.2.2.1 HMat.out.2.2.2)
          have HDM := Lib.hid (HD5.out.below HMb.out)
          have HwM := Lib.hid (HFB.out.trans (HMb.out.mono HFB.out.size))
          clear hB HF5 HD5 HMb HFB HMh
          go_wp2_with fail
          refine HSel.out.mono ?_
          rintro e w7 ⟨v7, rfl, hv7, hb7⟩
          have HD7 := Lib.hid (HDM.out.below hb7)
          have Hw7 := Lib.hid (HwM.out.trans (hb7.mono HwM.out.size))
          have HM7 := Lib.hid (HMat.out.below hb7)
          have HQ := Lib.hid (query_any FI X (w1.heap.size + 1) S I p hv H ts kk x B 0 1 w7 HD7.out.x HD7.out.ix (by omega) hkI (Nat.le_refl _) (by omega) HM7.out HD7.out.hd.now HH.out HNe.out HT.out.len HT.out.lo)
          have HV7 := Lib.hid hv7
          obtain ⟨a7, c7, rfl, -⟩ := hv7
          clear hb7 HSel HDM HwM HMat
          go_wp2_with fail
          refine HQ.out.mono ?_
          rintro e w8 ⟨v8, S8, rfl, hs8, hS8, hb8⟩
          obtain ⟨a8, c8, rfl, -⟩ := hs8.shape
          have hl8 : S8.length = (selL 5 kk x).length := by rw [← hS8, List.length_map]
          have HD8 := Lib.hid (HD7.out.below hb8)
          have Hw8 := Lib.hid (Hw7.out.trans (hb8.mono Hw7.out.size))
          have HV8 := Lib.hid (HV7.out.below hb8)
          have HS8 := Lib.hid hs8
          have HSl := Lib.hid hS8
          rw [hl8] at HS8 ⊢
          have HL8 := Lib.hid hl8
          clear hb8 hs8 hS8 hl8 HQ HM7 HD7 HV7 Hw7
          generalize selE kk x = ee at *
          generalize selL 5 kk x = L at *
          obtain ⟨m, hm⟩ : ∃ m, m = L.length := ⟨_, rfl⟩
          rw [← hm] at HS8 HV8 HL8 ⊢
          have HMl := Lib.hid hm
          clear hm
          go_wp2_with fail
          have hm9 : m ≤ 9223372036854775807 := by have := HV8.out; have h9 := HMl.out; obtain ⟨_, _, h1, h2, h3, -⟩ := this; omega
          go_loopw [18] (fun v wq => ∃ i : Nat, v = .int .i64 i ∧ i ≤ m ∧ Below w8.heap.size w8 wq) (fun v _ => m - (intOf v).toNat)
          case atStart => exact ⟨0, rfl, Nat.zero_le _, Below.refl _ _⟩
          case round =>
            obtain ⟨i, rfl, him, hbi⟩ := hrel
            have HBi := Lib.hid hbi
            by_cases hlt : i < m
            · have hii : (i : Int) < (m : Int) := by omega
              have hi0 : (0 : Int) ≤ (i : Int) := by omega
              obtain ⟨b1, o1, vs, rfl, hl1, e1, -, -⟩ := (HS8.out.below hbi).at_ (i := i) (by rw [HL8.out]; exact hlt)
              have hge : (S8.getD i (0, [])).1 = L.getD i 0 := by
                rw [← HSl.out, List.getD_eq_getElem?_getD, List.getD_eq_getElem?_getD, List.getElem?_map, List.getElem?_eq_getElem (show i < S8.length by rw [HL8.out]; exact hlt)]
                rfl
              rw [hge] at e1
              obtain ⟨a', c', hv', h2, h3, h4⟩ := HV8.out.below hbi
              have hLn : L ≠ [] := fun e => by have := HMl.out; rw [e] at this; simp at this; omega
              obtain ⟨b2, o2, ha2, hl2, hc2⟩ := h4 hLn
              simp only [Value.slice.injEq] at hv'
              obtain ⟨hva, -, -⟩ := hv'
              rw [ha2] at hva
              subst hva
              have e2 := hc2 i (by rw [← HMl.out]; exact hlt)
              generalize L.getD i 0 = z at *
              clear hge hc2 h4 h2 h3 ha2 hLn hbi
              go_wp2_with fail
              go_quiet (fail)
              go_wp2_with fail
              go_roundw
              case rel => exact ⟨i + 1, by go_num, by omega, belowN HBi.out _⟩
              case measure => simp [intOf]; omega
            · have hke : i = m := by omega
              subst hke
              have HRs := Lib.hid (db_rest (HD8.out.below hbi) HH.out HT.out)
              have HW := Lib.hid (Hw8.out.trans (hbi.mono Hw8.out.size))
              clear hlt him hbi
              go_wp2_with fail
              refine HRs.out.mono ?_
              rintro e w9 ⟨rfl, hb9⟩
              have HEnd := Lib.hid (show Below w.heap.size w w9 from (HB34.out.trans (HW.out.mono (Nat.le_trans hws hw3s))).trans (hb9.mono hws))
              clear hb9
              go_wp2_with fail
              go_ret
              exact ⟨rfl, HEnd.out⟩
  · have hx1 : (1024 : Int) < (x.length : Int) := by omega
    go_enter Tryz.func3, Tryz.ntmps3
    go_wp2_with fail
    go_ret
    exact ⟨rfl, Below.refl _ _⟩

end Go.Proofs.YtheenlomlmbjaaaGreatDoor
