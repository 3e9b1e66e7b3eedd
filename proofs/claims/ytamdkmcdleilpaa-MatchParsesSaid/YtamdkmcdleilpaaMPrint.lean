/-
  match.Print.
-/
import Derived.Test.YtamdkmcdleilpaaMPlain2
namespace Go.Proofs.Ytamdkmcdleilpaa
open Go.RowKit

theorem errM_true : errM true = 0 := rfl
theorem errM_false : errM false = 50 := rfl
theorem okMat_def (k : Int) (n x : Bytes) (ss : List Bytes) : okM k n x ss = okMat ⟨k, n, x, ss⟩ := rfl
/-- The first k parts are written. -/
def MPRel (ms : List Mat) (w : World) (p i : Value) (wr : World) : Prop :=
  ∃ k : Nat, k ≤ ms.length ∧ i = .int .i64 k ∧ OwnS wr w.heap.size p ((ms.take k).map partM) ∧ Below w.heap.size w wr ∧ ∀ i, i < k → okMat (ms.getD i noMat) = true
def VRel (B : Nat) (ss : List Bytes) (W0 : World) (q i : Value) (wq : World) : Prop :=
  ∃ j : Nat, j ≤ ss.length ∧ i = .int .i64 j ∧ OwnS wq B q ((ss.take j).map quoteL) ∧ Below B W0 wq
theorem own2 {w w2 w3 : World} {base : Nat} {v : Value} {l : List Bytes} {o : Obj} (h : OwnS w base v l) (h1 : Below w.heap.size w w2) (h2 : Below w2.heap.size w2 w3) : OwnS (w3.alloc o) base v l :=
  ((h.below h1).below h2).below ((Below.refl _ _).alloc (Nat.le_refl _) _)
theorem size2 {w w2 w3 : World} {base : Nat} {o : Obj} (h : base ≤ w.heap.size) (h1 : Below w.heap.size w w2) (h2 : Below w2.heap.size w2 w3) : base ≤ (w3.alloc o).heap.size := by
  have := h1.size
  have := h2.size
  simp; omega
theorem fin2 {w0 w w2 w3 w4 : World} {o : Obj} (h : Below w0.heap.size w0 w) (h1 : Below w.heap.size w w2) (h2 : Below w2.heap.size w2 w3) (h4 : Below w0.heap.size (w3.alloc o) w4) : Below w0.heap.size w0 w4 :=
  (((h.trans (h1.mono h.size)).trans (h2.mono (Nat.le_trans h.size h1.size))).trans ((Below.refl _ _).alloc (Nat.le_trans h.size (Nat.le_trans h1.size h2.size)) _)).trans h4
theorem keep_far4 {w w' : World} {v : Value} {b : Nat} {c0 c1 c2 c3 : Value} (hf : Far w w' v) (hb : some b ≠ v.ownBlock) (h : w.cell? ⟨b, 0, none⟩ = some c0 ∧ w.cell? ⟨b, 1, none⟩ = some c1 ∧ w.cell? ⟨b, 2, none⟩ = some c2 ∧ w.cell? ⟨b, 3, none⟩ = some c3) :
    w'.cell? ⟨b, 0, none⟩ = some c0 ∧ w'.cell? ⟨b, 1, none⟩ = some c1 ∧ w'.cell? ⟨b, 2, none⟩ = some c2 ∧ w'.cell? ⟨b, 3, none⟩ = some c3 := by
  have hlt : b < w.heap.size := World.block_lt_of_cell? w _ h.1
  exact ⟨(hf ⟨b, 0, none⟩ hlt hb).trans h.1, (hf ⟨b, 1, none⟩ hlt hb).trans h.2.1, (hf ⟨b, 2, none⟩ hlt hb).trans h.2.2.1, (hf ⟨b, 3, none⟩ hlt hb).trans h.2.2.2⟩
theorem dr1 {w w2 : World} (h : Below w.drew.heap.size w.drew w2) : Below w.heap.size w w2 := (Below.refl _ _).drew.trans h

set_option maxRecDepth 100000 in
set_option maxHeartbeats 4000000 in
attribute [local go_sem ↓] Go.wp_at_zero Go.wp_at_succ in
theorem mprint_any (v : Value) (ms : List Mat) (w : World) (hv : Matchers w v ms) (hw : ms.length + wm ms ≤ 1000000) :
    Calls Try.prog 44 #[v] w fun e w' => e = .returned (.tuple #[.string (bs (printP (bodyM ms) (chkM ms))), .int .i64 (errM (chkM ms))]) ∧ Below w.heap.size w w' := by
  have HV := Lib.hid hv
  obtain ⟨a, cap, rfl, h1, h2, -⟩ := hv
  generalize hR : chkM ms = R
  have HR := Lib.hid hR
  clear hR
  by_cases h8 : 8 < ms.length
  · have HE := Lib.hid (show R = false by rw [← HR.out]; exact chk_long h8)
    have h8' : (8 : Int) < (ms.length : Int) := by omega
    go_enter Try.func44, Try.ntmps44
    go_wp2_with fail
    go_ret2
    exact ⟨by rw [HE.out]; rfl, Below.refl _ _⟩
  · have h8' : ¬ ((8 : Int) < (ms.length : Int)) := by omega
    have HS0 := Lib.hid (show MPRel ms w (.slice none 0 0) (.int .i64 0) w from ⟨0, Nat.zero_le _, rfl, OwnS.nil _ _, Below.refl _ _, fun i h => absurd h (Nat.not_lt_zero _)⟩)
    go_enter Try.func44, Try.ntmps44
    go_wp2_with fail
    go_loopw [4, 16] (fun p i wr => MPRel ms w p i wr) (fun _ i _ => ms.length - (intOf i).toNat)
    case atStart => exact HS0.out
    case round =>
      clear HS0
      obtain ⟨k, hk, rfl, hown, hbl, hok⟩ := hrel
      have HO := Lib.hid hown
      have HB := Lib.hid hbl
      have HK := Lib.hid hok
      have hszw := hbl.size
      clear hown hbl hok
      by_cases hlt : k < ms.length
      · obtain ⟨b, off, u, rfl, hb, hc0, hc1, hc2, hc3, hss⟩ := (HV.out.below HB.out).at_ hlt
        have HP := Lib.hid (partM_take hlt)
        have HMem := Lib.hid (mem_mat hlt)
        have hwm := wm_mem HMem.out
        have HOk := Lib.hid (fun (h : okMat (ms.getD k noMat) = true) => show ∀ i, i < k + 1 → okMat (ms.getD i noMat) = true from fun i hi => by
          rcases Nat.lt_or_ge i k with h' | h'
          · exact HK.out i h'
          · rw [show i = k by omega]; exact h)
        have HNo := Lib.hid (fun (h : okMat (ms.getD k noMat) = false) => show R = false by rw [← HR.out]; exact chk_no HMem.out h)
        have HU := Lib.hid hss
        have hpl := partM_le (ms.getD k noMat)
        have hwo : wOf (ms.getD k noMat) ≤ wm ms := hwm
        clear hss HMem HK
        generalize ms.getD k noMat = m at *
        obtain ⟨kd, n, x, ss⟩ := m
        simp only at hc0 hc1 hc2 HU hwm
        obtain ⟨ua, uc, hu, huc, huc2, -⟩ := HU.out
        subst hu
        obtain ⟨W0, hW0⟩ : ∃ W0, W0 = wr.alloc (.cells #[.int .i64 kd, .string (bs n), .string (bs x), .slice ua ss.length uc] 27) := ⟨_, rfl⟩
        have hmb : MB W0 wr.heap.size kd n x (.slice ua ss.length uc) := by rw [hW0]; exact heap_alloc_new ..
        have HM0 := Lib.hid hmb
        have HO0 := Lib.hid (show OwnS W0 w.heap.size u4 _ by rw [hW0]; exact HO.out.below ((Below.refl _ _).alloc (Nat.le_refl _) _))
        have HU0 := Lib.hid (show Strs W0 (.slice ua ss.length uc) ss by rw [hW0]; exact HU.out.below ((Below.refl _ _).alloc (Nat.le_refl _) _))
        have HB0 := Lib.hid (show Below w.heap.size w W0 by rw [hW0]; exact HB.out.alloc hszw _)
        have hbB := hmb.lt
        have HCk := Lib.hid (mcheck_any kd n x _ ss W0 HU0.out)
        rw [okMat_def] at HCk
        obtain ⟨c0, c1, c2, c3⟩ := hmb.cells
        have HNE := Lib.hid (own_ne HO.out)
        have hpt : ((ms.take k).map partM).length ≤ 1000000000000 := by simp; omega
        clear hmb HO HU HB
        rw [hW0] at c0 c1 c2 c3
        cases hm : okMat ⟨kd, n, x, ss⟩ with
        | false =>
          have HE := Lib.hid (HNo.out hm)
          rw [hm, errM_false] at HCk
          clear hm HNo HOk
          rw [hW0] at HCk HB0
          clear hW0 HM0 HO0 HU0
          go_wp2_with fail
          refine HCk.out.mono ?_
          rintro e w3 ⟨rfl, hb3⟩
          have HB3 := Lib.hid hb3
          clear hb3
          go_wp2_with fail
          go_ret2
          exact ⟨by rw [HE.out]; rfl, HB0.out.trans (HB3.out.mono HB0.out.size)⟩
        | true =>
          rw [hm, errM_true] at HCk
          obtain ⟨kn, hkn, hkn4⟩ : ∃ kn : Nat, kd = (kn : Int) ∧ kn < 4 := by
            rcases ok_kind hm with e | e | e | e <;> simp only at e
            · exact ⟨0, e, by omega⟩
            · exact ⟨1, e, by omega⟩
            · exact ⟨2, e, by omega⟩
            · exact ⟨3, e, by omega⟩
          subst hkn
          have HOk1 := Lib.hid (HOk.out hm)
          have HSet := Lib.hid (show kn < 3 → ss = [] from fun h => by
            have h' : okM (kn : Int) n x ss = true := hm
            rw [okM_lo (by omega)] at h'
            simp only [Bool.and_eq_true, decide_eq_true_eq] at h'
            exact List.length_eq_zero_iff.1 h'.2.2)
          have HPm := Lib.hid (show partM ⟨kn, n, x, ss⟩ = n ++ signV kn ++ quotesL (valsOf ⟨kn, n, x, ss⟩) by rw [signV_pre hkn4]; simp [partM])
          have HVo := Lib.hid (show (kn < 3 → valsOf ⟨(kn : Int), n, x, ss⟩ = [x]) ∧ (¬ kn < 3 → valsOf ⟨(kn : Int), n, x, ss⟩ = ss) from ⟨fun h => if_pos (show (kn : Int) < 3 by omega), fun h => if_neg (show ¬ (kn : Int) < 3 by omega)⟩)
          rw [HPm.out, List.append_assoc] at HP
          have hslV : (signV kn).length ≤ 2 := by unfold signV; split; simp; split; simp; split <;> simp
          have hidx := fun w => kindAt hkn4 w
          have hks := kindSg (bs (signV kn)) (.func (fnV kn))
          have HKc := Lib.hid (fun w => kinds_any w)
          clear hm HNo HOk HPm
          generalize valsOf ⟨(kn : Int), n, x, ss⟩ = vs at *
          generalize signV kn = sg at *
          generalize fnV kn = fv at *
          generalize kindsV = KV at *
          rw [hW0] at HCk
          go_wp2_with fail
          refine HCk.out.mono ?_
          rintro e w3 ⟨rfl, hb3⟩
          rw [← hW0] at hb3
          clear hW0 HCk c0 c1 c2 c3
          have HB3 := Lib.hid hb3
          have HM3 := Lib.hid (HM0.out.below hb3 hbB)
          obtain ⟨c0, c1, c2, c3⟩ := HM3.out.cells
          generalize hbx : wr.heap.size = bx at *
          clear hbx
          have HV0 := Lib.hid (show VRel W0.heap.size ss W0 (.slice none 0 0) (.int .i64 0) w3 from ⟨0, Nat.zero_le _, rfl, OwnS.nil _ _, HB3.out⟩)
          clear hb3 HM3
          go_wp2_with fail
          clear c0 c1 c2 c3
          go_loopw [8, 28] (fun q i wq => VRel W0.heap.size ss W0 q i wq) (fun _ i _ => ss.length - (intOf i).toNat)
          case atStart => exact HV0.out
          case round =>
            clear HV0
            obtain ⟨j, hj, rfl, hown, hbl⟩ := hrel
            have HQ := Lib.hid hown
            have HB4 := Lib.hid hbl
            have hsz4 := hbl.size
            clear hown hbl
            by_cases hjl : j < ss.length
            · obtain ⟨b2, off2, rfl, hb2, hcs⟩ := (HU0.out.below HB4.out).at_ hjl
              have HT := Lib.hid (quote_take hjl)
              have hsl := sl_getD hjl
              have hjt : ((ss.take j).map quoteL).length ≤ ss.length := by simp; omega
              generalize ss.getD j [] = y at *
              have HQt := Lib.hid (fun w => quote_any y w (by omega))
              go_wp2_with fail
              refine (HQt.out _).mono ?_
              rintro e w5 ⟨rfl, hb5⟩
              have HQ5 := Lib.hid (HQ.out.below hb5)
              have HB5 := Lib.hid (HB4.out.trans (hb5.mono HB4.out.size))
              have hsz5 := HB5.out.size
              clear hb5
              go_wp2_with (at_builtin; refine app_str _ rfl (.tmp 32) (.tmp 35) rfl W0.heap.size _ _ (quoteL y) _ rfl rfl (heap_alloc_new ..) (HQ5.out.below ((Below.refl _ _).alloc (Nat.le_refl _) _)) (by simp; omega) (by omega) ?_; intro u' w6 hown6 hb6; have HQ6 := Lib.hid hown6; have HB6 := Lib.hid (HB5.out.trans (((Below.refl W0.heap.size w5).alloc (by omega) _).trans hb6)); clear hown6 hb6)
              have HR2 := Lib.hid (show VRel W0.heap.size ss W0 u' (.int .i64 ((j : Int) + 1)) w6 from ⟨j + 1, by omega, rfl, by rw [HT.out]; exact HQ6.out, HB6.out⟩)
              go_roundw
              case rel => exact HR2.out
              case measure => simp [intOf]; omega
            · have hje : j = ss.length := by omega
              have HT := Lib.hid (show (ss.take j).map quoteL = ss.map quoteL by rw [hje, List.take_of_length_le (Nat.le_refl _)])
              rw [HT.out] at HQ
              clear hje HT
              have HM4 := Lib.hid (HM0.out.below HB4.out hbB)
              have hb4 := HM4.out.lt
              obtain ⟨c0, c1, c2, c3⟩ := HM4.out.cells
              by_cases hk3 : kn < 3
              · have hk3' : (kn : Int) < 3 := by omega
                have HQx := Lib.hid (fun w => quote_any x w (by omega))
                rw [HVo.out.1 hk3] at HP
                clear hk3
                go_wp2_with fail
                refine (HQx.out _).mono ?_
                rintro e w5 ⟨rfl, hb5⟩
                have HB5 := Lib.hid (HB4.out.trans (hb5.mono HB4.out.size))
                have hsz5 := HB5.out.size
                clear hb5 c0 c1 c2 c3 HM4 hb4 HQ
                have HBn := Lib.hid (HB5.out.alloc hsz5 (.cells #[.string (bs (quoteL x))] 9))
                have HMn := Lib.hid (HM0.out.below HBn.out hbB)
                have HOn := Lib.hid (HO0.out.below HBn.out)
                have HQn := Lib.hid (OwnS.one w5 (base := W0.heap.size) (quoteL x) hsz5)
                go_wp2_with fail
                generalize w5.alloc (.cells #[.string (bs (quoteL x))] 9) = W5 at *
                generalize Value.slice (some ⟨w5.heap.size, 0, none⟩) 1 1 = uv at *
                obtain ⟨c0, c1, c2, c3⟩ := HMn.out.cells
                have hbn := HMn.out.lt
                have HJ := Lib.hid (fun w (h : OwnS w W0.heap.size uv [quoteL x]) => join_all uv [quoteL x] 124 w h.strs (by have := (quoteL_len x).2; simp [lens]; omega))
                have hql := quotesL_le [x]
                have hql2 : (quotesL [x]).length ≤ 2 * x.length + 3 := by simpa [sl] using hql
                have HJe := Lib.hid (show joinB [124] [quoteL x] = quotesL [x] from rfl)
                rw [HJe.out] at HJ
                clear hql
                generalize quotesL [x] = qq at *
                have hg1 : ¬ (9223372036854775807 < n.length + sg.length) := by omega
                have hg2 : ¬ (9223372036854775807 < n.length + sg.length + qq.length) := by omega
                have HB4w := Lib.hid (HB0.out.trans (HBn.out.mono HB0.out.size))
                go_region_held3 (fun w' => w'.cell? ⟨bx, 0, none⟩ = some (.int .i64 kn) ∧ w'.cell? ⟨bx, 1, none⟩ = some (.string (bs n)) ∧ w'.cell? ⟨bx, 2, none⟩ = some (.string (bs x)) ∧ w'.cell? ⟨bx, 3, none⟩ = some (.slice ua ss.length uc))
                  (first | exact keep_far4 hfar HNE.out (by assumption) | exact keep4 (by assumption) hb2 | exact keep4 (by assumption) hb1 | go_keep)
                  (first
                    | (go_at_call 49; refine (HKc.out _).mono ?_; rintro e w7 ⟨rfl, hb1⟩)
                    | (go_at_call 56; refine (HJ.out _ (by first | exact HQn.out.below (dr1 hb1) | exact HQn.out)).mono ?_; rintro e w8 ⟨rfl, hb2⟩)
                    | (refine step_str2 _ rfl (.tmp 45) (.tmp 57) rfl w.heap.size _ _ (n ++ (sg ++ qq)) _ (by rfl) (by rfl) (heap_alloc_new ..) (by first | exact own2 HOn.out (dr1 hb1) hb2 | exact own2 HOn.out (dr1 hb2) hb1) (by first | exact size2 HB4w.out.size (dr1 hb1) hb2 | exact size2 HB4w.out.size (dr1 hb2) hb1) hpt ?_; intro v' w9 hown9 hb9 hfar))
                all_goals
                  (have HR3 := Lib.hid (show MPRel ms w v' (.int .i64 ((k : Int) + 1)) w9 from ⟨k + 1, by omega, rfl, by rw [HP.out]; exact hown9, by first | exact fin2 HB4w.out (dr1 hb1) hb2 hb9 | exact fin2 HB4w.out (dr1 hb2) hb1 hb9, HOk1.out⟩)
                   clear hown9 hb9 hfar hb1 hb2
                   go_wp2_with fail
                   go_roundw
                   case rel => exact HR3.out
                   case measure => simp [intOf]; omega)
              · have hk3' : ¬ ((kn : Int) < 3) := by omega
                rw [HVo.out.2 hk3] at HP
                clear hk3
                have HJ := Lib.hid (fun w (h : OwnS w W0.heap.size u8 (ss.map quoteL)) => join_all u8 (ss.map quoteL) 124 w h.strs (by have := lens_quotes ss; simp; omega))
                have hql := quotesL_le ss
                have HJe := Lib.hid (show joinB [124] (ss.map quoteL) = quotesL ss from rfl)
                rw [HJe.out] at HJ
                generalize quotesL ss = qq at *
                have hg1 : ¬ (9223372036854775807 < n.length + sg.length) := by omega
                have hg2 : ¬ (9223372036854775807 < n.length + sg.length + qq.length) := by omega
                have HO4 := Lib.hid (HO0.out.below HB4.out)
                have HB4w := Lib.hid (HB0.out.trans (HB4.out.mono HB0.out.size))
                go_wp2_with fail
                go_region_held3 (fun w' => w'.cell? ⟨bx, 0, none⟩ = some (.int .i64 kn) ∧ w'.cell? ⟨bx, 1, none⟩ = some (.string (bs n)) ∧ w'.cell? ⟨bx, 2, none⟩ = some (.string (bs x)) ∧ w'.cell? ⟨bx, 3, none⟩ = some (.slice ua ss.length uc))
                  (first | exact keep_far4 hfar HNE.out (by assumption) | exact keep4 (by assumption) hb2 | exact keep4 (by assumption) hb1 | go_keep)
                  (first
                    | (go_at_call 49; refine (HKc.out _).mono ?_; rintro e w7 ⟨rfl, hb1⟩)
                    | (go_at_call 56; refine (HJ.out _ (by first | exact HQ.out.below (dr1 hb1) | exact HQ.out)).mono ?_; rintro e w8 ⟨rfl, hb2⟩)
                    | (refine step_str2 _ rfl (.tmp 45) (.tmp 57) rfl w.heap.size _ _ (n ++ (sg ++ qq)) _ (by rfl) (by rfl) (heap_alloc_new ..) (by first | exact own2 HO4.out (dr1 hb1) hb2 | exact own2 HO4.out (dr1 hb2) hb1) (by first | exact size2 HB4w.out.size (dr1 hb1) hb2 | exact size2 HB4w.out.size (dr1 hb2) hb1) hpt ?_; intro v' w9 hown9 hb9 hfar))
                all_goals
                  (have HR3 := Lib.hid (show MPRel ms w v' (.int .i64 ((k : Int) + 1)) w9 from ⟨k + 1, by omega, rfl, by rw [HP.out]; exact hown9, by first | exact fin2 HB4w.out (dr1 hb1) hb2 hb9 | exact fin2 HB4w.out (dr1 hb2) hb1 hb9, HOk1.out⟩)
                   clear hown9 hb9 hfar hb1 hb2
                   go_wp2_with fail
                   go_roundw
                   case rel => exact HR3.out
                   case measure => simp [intOf]; omega)
      · have hke : k = ms.length := by omega
        have HT := Lib.hid (show (ms.take k).map partM = ms.map partM by rw [hke, List.take_of_length_le (Nat.le_refl _)])
        rw [HT.out] at HO
        have HE := Lib.hid (show R = true by rw [← HR.out]; exact chk_all (by omega) fun i hi => HK.out i (by omega))
        have HJ := Lib.hid (join_all u4 (ms.map partM) 44 wr HO.out.strs (by have := lens_partM ms; simp; omega))
        have hbl := bodyM_len ms
        have HJe := Lib.hid (show joinB [44] (ms.map partM) = bodyM ms from rfl)
        rw [HJe.out] at HJ
        obtain ⟨bd, hbd⟩ : ∃ bd, bodyM ms = bd := ⟨_, rfl⟩
        have HBd := Lib.hid hbd
        rw [hbd] at HJ hbl
        clear hke HT hbd HJe
        go_wp2_with fail
        refine HJ.out.mono ?_
        rintro e w3 ⟨rfl, hb3⟩
        have HB3 := Lib.hid (HB.out.trans (hb3.mono HB.out.size))
        clear hb3
        go_wp2_with fail
        go_ret2
        exact ⟨by rw [HE.out, HBd.out]; rfl, HB3.out⟩

end Go.Proofs.Ytamdkmcdleilpaa
