/-
  match.one: one matcher, read from a text.
-/
import Derived.Test.YtamdkmcdleilpaaOneL
namespace Go.Proofs.Ytamdkmcdleilpaa
open Go.RowKit

set_option maxRecDepth 100000 in
set_option maxHeartbeats 1000000 in
theorem one_with (s nm r0 : Bytes) (bb : Bool) (w : World) (hl2 : nm.length + r0.length ≤ 100000)
    (HC : Hid (∀ w, Calls Try.prog 64 #[.string (bs s), .string (bs [61])] w fun e w' => e = .returned (.tuple #[.string (bs nm), .string (bs r0), .bool bb]) ∧ Below w.heap.size w w')) :
    Calls Try.prog 69 #[.string (bs s)] w (OnePost w (par1 nm r0)) := by
  have HM0 := Lib.hid (show MB (w.alloc (.cells #[.int .i64 0, .string (bs []), .string (bs []), .slice none 0 0] 27)) w.heap.size 0 [] [] (.slice none 0 0) from heap_alloc_new ..)
  have HB0 := Lib.hid ((Below.refl w.heap.size w).alloc (Nat.le_refl _) (.cells #[.int .i64 0, .string (bs []), .string (bs []), .slice none 0 0] 27))
  generalize hO : par1 nm r0 = O
  have HO := Lib.hid hO
  clear hO
  go_enter Try.func69, Try.ntmps69
  go_wp2_with fail
  refine (HC.out _).mono ?_
  rintro e w1 ⟨rfl, hb1⟩
  have hsz : w.heap.size < (w.alloc (.cells #[.int .i64 0, .string (bs []), .string (bs []), .slice none 0 0] 27)).heap.size := by simp
  have HM1 := Lib.hid (HM0.out.below hb1 hsz)
  have HB1 := Lib.hid (HB0.out.trans (hb1.mono HB0.out.size))
  obtain ⟨mb, hmb⟩ : ∃ mb, mb = w.heap.size := ⟨_, rfl⟩
  have hmb1 : w.heap.size ≤ mb := by omega
  rw [← hmb] at HM1 ⊢
  obtain ⟨c0, c1, c2, c3⟩ := HM1.out.cells
  obtain ⟨f0, f1, f2, f3⟩ := HM1.out.frozen
  have HM2 := Lib.hid (HM1.out.set1 nm)
  have HB2 := Lib.hid (HB1.out.setCell (p := ⟨mb, 1, none⟩) hmb1 (.string (bs nm)))
  clear hb1 HM0 HB0 HC hsz HM1 HB1 hmb
  have HH0 := Lib.hid (headI_0 nm)
  go_wp2_with fail
  generalize w1.setCell ⟨mb, 1, none⟩ (.string (bs nm)) = w2 at *
  clear c0 c1 c2 c3 f0 f1 f2 f3
  have hlt2 := HM2.out.lt
  refine (kinds_any w2).mono ?_
  rintro e w3 ⟨rfl, hb3⟩
  have HM3 := Lib.hid (HM2.out.below hb3 hlt2)
  have HB3 := Lib.hid (HB2.out.trans (hb3.mono HB2.out.size))
  clear hb3 HM2 HB2
  generalize hKV : kindsV = KV
  have HKV := Lib.hid hKV
  clear hKV
  go_wp2_with fail
  go_loopw [21] (fun i wr => ∃ k : Nat, k ≤ 4 ∧ i = .int .i64 k ∧ MB wr mb (headI nm k).1 (headI nm k).2 [] (.slice none 0 0) ∧ Below w.heap.size w wr) (fun i wr => 4 - (intOf i).toNat)
  case atStart => exact ⟨0, by omega, rfl, by rw [HH0.out]; exact HM3.out, HB3.out⟩
  case round =>
    clear HM3 HB3
    obtain ⟨k, hk, rfl, hm, hb⟩ := hrel
    have HM := Lib.hid hm
    have HB := Lib.hid hb
    have hmlt := hm.lt
    clear hm hb
    by_cases hlt : k < 4
    · have hidx := fun w => kindAt hlt w
      rw [HKV.out] at hidx
      have HA := Lib.hid (HM.out.below ((Below.refl wr.heap.size wr).alloc (Nat.le_refl _) (.cells #[.string (bs (signV k)), .func (.func (fnV k)) #[] #[]] 58)) hmlt)
      have HBa := Lib.hid (HB.out.alloc HB.out.size (.cells #[.string (bs (signV k)), .func (.func (fnV k)) #[] #[]] 58))
      have hsl : (signV k).length ≤ 2 := by unfold signV; split; simp; split; simp; split <;> simp
      have HCS := Lib.hid (fun w => cutSuf_any (nm ++ [61]) (signV k) w (by simp; omega) (by omega))
      rcases Nat.eq_zero_or_pos k with hk0 | hk0
      · have HS0 := Lib.hid (show isSufB (signV k) (nm ++ [61]) = true by rw [hk0]; exact suf_0 nm)
        rw [HS0.out] at HCS
        have HH1 := Lib.hid (show headI nm (k + 1) = headI nm k by rw [hk0]; exact headI_1 nm)
        have hk1 : (k : Int) ≤ 0 := by omega
        clear hk0
        generalize leftE (signV k) (nm ++ [61]) = x at *
        generalize signV k = sg at *
        generalize fnV k = fv at *
        go_wp2_with fail
        refine (HCS.out _).mono ?_
        rintro e w5 ⟨rfl, rfl⟩
        go_wp2_with fail
        go_roundw
        case rel => exact ⟨k + 1, by omega, by go_num, by rw [HH1.out]; exact HA.out, HBa.out⟩
        case measure => simp [intOf]; omega
      · obtain ⟨hs1, hs2⟩ := suf_kind nm hk0 hlt
        rw [hs1] at HCS
        have HH1 := Lib.hid (headI_next nm hk0 hlt)
        have HS2 := Lib.hid hs2
        have hk1 : (0 : Int) < (k : Int) := by omega
        clear hs1 hs2 hk0
        cases hh : hitI nm k with
        | false =>
          rw [hh] at HCS HH1
          clear hh HS2
          generalize leftE (signV k) (nm ++ [61]) = x at *
          generalize signV k = sg at *
          generalize fnV k = fv at *
          go_wp2_with fail
          refine (HCS.out _).mono ?_
          rintro e w5 ⟨rfl, rfl⟩
          go_wp2_with fail
          go_roundw
          case rel => exact ⟨k + 1, by omega, by go_num, by rw [HH1.out]; exact HA.out, HBa.out⟩
          case measure => simp [intOf]; omega
        | true =>
          rw [hh] at HCS HH1
          obtain ⟨e1, e2⟩ := HS2.out hh
          rw [e1] at HCS
          have HE2 := Lib.hid (show headI nm (k + 1) = ((k : Int), (headM nm).2) by rw [HH1.out, if_pos rfl]; exact Prod.ext e2 rfl)
          clear hh HS2 e1 e2 HH1
          generalize (headM nm).2 = x at *
          generalize signV k = sg at *
          generalize fnV k = fv at *
          generalize (headI nm k).1 = k0 at *
          generalize (headI nm k).2 = n0 at *
          obtain ⟨c0, c1, c2, c3⟩ := HM.out.cells
          obtain ⟨f0, f1, f2, f3⟩ := HM.out.frozen
          have HMs := Lib.hid ((HM.out.set0 (k : Int)).set1 x)
          have HA2 := Lib.hid (HMs.out.below ((Below.refl _ _).alloc (Nat.le_refl _) (.cells #[.string (bs sg), .func (.func fv) #[] #[]] 58)) HMs.out.lt)
          have HBs := Lib.hid ((HB.out.setCell (p := ⟨mb, 0, none⟩) hmb1 (.int .i64 k)).setCell (p := ⟨mb, 1, none⟩) hmb1 (.string (bs x)))
          have HBa2 := Lib.hid (HBs.out.alloc HBs.out.size (.cells #[.string (bs sg), .func (.func fv) #[] #[]] 58))
          go_wp2_with fail
          refine (HCS.out _).mono ?_
          rintro e w5 ⟨rfl, rfl⟩
          go_wp2_with fail
          go_roundw
          case rel => exact ⟨k + 1, by omega, by go_num, by rw [HE2.out]; exact HA2.out, HBa2.out⟩
          case measure => simp [intOf]; omega
    · have hke : k = 4 := by omega
      have HH4 := Lib.hid (headI_4 nm)
      rw [hke, HH4.out] at HM
      clear hke HH4 HH0 hmlt
      have HQ := Lib.hid (mquoted_any r0 wr (by omega))
      have hlm := HM.out.lt
      have HK := Lib.hid (headM_kind nm)
      have HPr := Lib.hid (fun v r1 (h : mq r0 = some (v, r1)) h3 => par1_lo (nm := nm) h h3)
      have HPn := Lib.hid (fun (h : mq r0 = none) => par1_none (nm := nm) h)
      have HPs := Lib.hid (fun v r1 (h : mq r0 = some (v, r1)) h3 => par1_hi (nm := nm) h h3)
      rw [HO.out] at HPr HPn HPs
      generalize (headM nm).1 = k0 at *
      generalize (headM nm).2 = n0 at *
      clear HO
      go_wp2_with fail
      refine HQ.out.mono ?_
      rintro e w4 ⟨rfl, hb4⟩
      have HM4 := Lib.hid (HM.out.below hb4 hlm)
      have HB4 := Lib.hid (HB.out.trans (hb4.mono HB.out.size))
      have hlm4 := HM4.out.lt
      have hbl : w.heap.size ≤ mb := hmb1
      clear hb4 HM HB HQ
      obtain ⟨c0, c1, c2, c3⟩ := HM4.out.cells
      obtain ⟨f0, f1, f2, f3⟩ := HM4.out.frozen
      by_cases hk3 : k0 < 3
      · cases hq : mq r0 with
        | none =>
          have HE := Lib.hid (HPn.out hq)
          clear hq HPn HPs HPr
          rw [mqT_none]
          go_wp2_with fail
          refine bodyPost_ret (ret_mat rfl _ _ mb _ _ _ _ rfl ((HM4.out.set2 []).put k0 n0 [] (.slice none 0 0))) rfl ?_
          exact ⟨k0, n0, [], [], none, 0, 0, false, rfl, below_putM (HB4.out.setCell (p := ⟨mb, 2, none⟩) hbl _) hbl _ _ _ _, fun _ => rfl, fun m r' h => by rw [HE.out] at h; cases h⟩
        | some vr =>
          obtain ⟨v, r1⟩ := vr
          have HE := Lib.hid (HPr.out v r1 hq hk3)
          clear hq HPn HPs HPr
          rw [mqT_some]
          go_wp2_with fail
          refine bodyPost_ret (ret_mat rfl _ _ mb _ _ _ _ rfl ((HM4.out.set2 v).put k0 n0 v (.slice none 0 0))) rfl ?_
          refine ⟨k0, n0, v, r1, none, 0, 0, true, rfl, below_putM (HB4.out.setCell (p := ⟨mb, 2, none⟩) hbl _) hbl _ _ _ _, fun h => (by rw [HE.out] at h; cases h), fun m r' h => ?_⟩
          rw [HE.out] at h
          simp only [Option.some.injEq, Prod.mk.injEq] at h
          obtain ⟨rfl, rfl⟩ := h
          exact ⟨rfl, rfl, rfl, rfl, rfl, OwnS.nil _ _⟩
      · have HK3 := Lib.hid (show k0 = 3 by rcases HK.out with e | e | e | e <;> omega)
        rw [HK3.out] at HM4
        obtain ⟨v, r, b, OB, HQ, HOB, hr⟩ : ∃ v r b OB, Hid (mqT (mq r0) = .tuple #[.string (bs v), .string (bs r), .bool b]) ∧ Hid (O = OB.map (fun x => ((⟨3, n0, [], x.1⟩ : Mat), x.2)) ∧ (b = true → barsF (r.length + 1) r [v] = OB) ∧ (b = false → OB = none)) ∧ r.length ≤ 200000 := by
          cases hq : mq r0 with
          | none => exact ⟨[], [], false, none, Lib.hid rfl, Lib.hid ⟨HPn.out hq, (fun h => by cases h), (fun _ => rfl)⟩, by simp⟩
          | some vr => exact ⟨vr.1, vr.2, true, _, Lib.hid rfl, Lib.hid ⟨HPs.out vr.1 vr.2 hq (by omega), (fun _ => rfl), (fun h => by cases h)⟩, by have := mq_len hq; omega⟩
        rw [HQ.out]
        clear HQ HPr HPn HPs HK
        have HMs := Lib.hid (HM4.out.set3 (.slice (some ⟨w4.heap.size, 0, none⟩) 1 1))
        have HSz := Lib.hid (show (w4.setCell ⟨mb, 3, none⟩ (.slice (some ⟨w4.heap.size, 0, none⟩) 1 1)).heap.size = w4.heap.size by simp [World.setCell])
        have HMa := Lib.hid (HMs.out.below ((Below.refl _ _).alloc (Nat.le_refl _) (.cells #[.string (bs v)] 9)) HMs.out.lt)
        have HOa := Lib.hid (show OwnS ((w4.setCell ⟨mb, 3, none⟩ (.slice (some ⟨w4.heap.size, 0, none⟩) 1 1)).alloc (.cells #[.string (bs v)] 9)) (mb + 1) (.slice (some ⟨w4.heap.size, 0, none⟩) 1 1) [v] by
          have := OwnS.one (w4.setCell ⟨mb, 3, none⟩ (.slice (some ⟨w4.heap.size, 0, none⟩) 1 1)) (base := mb + 1) v (by rw [HSz.out]; omega)
          rwa [HSz.out] at this)
        have HBa := Lib.hid ((HB4.out.setCell (p := ⟨mb, 3, none⟩) hbl (.slice (some ⟨w4.heap.size, 0, none⟩) 1 1)).alloc (by rw [HSz.out]; exact HB4.out.size) (.cells #[.string (bs v)] 9))
        have HS0 := Lib.hid (show SRel w mb n0 OB (.string (bs r)) (.bool b) _ from ⟨[v], r, b, _, rfl, rfl, HMa.out, HOa.out, HBa.out, by omega, by simp; omega, fun h => ⟨r.length + 1, by omega, HOB.out.2.1 h⟩, HOB.out.2.2⟩)
        clear HMa HOa HBa HMs HSz
        go_wp2_with fail
        clear c0 c1 c2 c3 f0 f1 f2 f3 HM4 HB4
        go_loopw [3, 4] (fun p q wr => SRel w mb n0 OB p q wr) (fun p q wr => measB p q)
        case atStart => exact HS0.out
        case round =>
          clear HS0
          obtain ⟨acc, r, b, u, rfl, rfl, hm, ho, hbw, hrl, hal, hx1, hx2⟩ := hrel
          have HM := Lib.hid hm
          have HW := Lib.hid ho
          have HB := Lib.hid hbw
          have HX1 := Lib.hid hx1
          have HX2 := Lib.hid hx2
          have hmlt := hm.lt
          clear hm ho hbw hx1 hx2
          obtain ⟨ua, uc, rfl⟩ := HW.out.slice
          obtain ⟨c0, c1, c2, c3⟩ := HM.out.cells
          obtain ⟨f0, f1, f2, f3⟩ := HM.out.frozen
          cases b with
          | false =>
            have HE := Lib.hid (HX2.out rfl)
            go_wp2_with fail
            refine bodyPost_ret (ret_mat rfl _ _ mb _ _ _ _ rfl (HM.out.put 3 n0 [] _)) rfl ?_
            exact ⟨3, n0, [], r, ua, acc.length, uc, false, rfl, below_putM HB.out hbl _ _ _ _, fun _ => rfl, fun m r' h => by rw [HOB.out.1, HE.out] at h; cases h⟩
          | true =>
            have HP := Lib.hid (hasPrefix_any r [124] wr (by omega) (by simp))
            cases hp : isPre [124] r with
            | false =>
              have HE := Lib.hid (show O = some (⟨3, n0, [], acc⟩, r) by
                obtain ⟨fu, g1, g2⟩ := HX1.out rfl
                rw [HOB.out.1, ← g2, barsF_end g1 hp]; rfl)
              rw [hp] at HP
              clear hp
              go_wp2_with fail
              refine HP.out.mono ?_
              rintro e w5 ⟨rfl, rfl⟩
              go_wp2_with fail
              refine bodyPost_ret (ret_mat rfl _ _ mb _ _ _ _ rfl (HM.out.put 3 n0 [] _)) rfl ?_
              refine ⟨3, n0, [], r, ua, acc.length, uc, true, rfl, below_putM HB.out hbl _ _ _ _, fun h => (by rw [HE.out] at h; cases h), fun m r' h => ?_⟩
              rw [HE.out] at h
              simp only [Option.some.injEq, Prod.mk.injEq] at h
              obtain ⟨rfl, rfl⟩ := h
              exact ⟨rfl, rfl, rfl, rfl, rfl, (((((HW.out.setOther (Nat.lt_succ_self mb) 0 _).setOther (Nat.lt_succ_self mb) 1 _).setOther (Nat.lt_succ_self mb) 2 _).setOther (Nat.lt_succ_self mb) 3 _).less (by omega))⟩
            | true =>
              rw [hp] at HP
              have hfr : ∀ w : World, (Instr.sliceAt 9 (.string (bs r)) (some (.int .i64 1)) none none).run Try.prog w = .ok (.string (bs (r.drop 1))) w := fun w => sfrom_run r 1 (by obtain ⟨x, rfl⟩ := isPre_cons hp; simp) w
              have hd1 : (r.drop 1).length ≤ r.length - 1 := by simp
              have hr1 : 1 ≤ r.length := by obtain ⟨x, rfl⟩ := isPre_cons hp; simp
              have HQ := Lib.hid (mquoted_any (r.drop 1) wr (by omega))
              obtain ⟨v', r', b', HQe, HR'⟩ : ∃ v' r' b', Hid (mqT (mq (r.drop 1)) = .tuple #[.string (bs v'), .string (bs r'), .bool b']) ∧ Hid ((b' = true → r'.length + 2 ≤ (r.drop 1).length ∧ ∃ fuel, r'.length < fuel ∧ barsF fuel r' (acc ++ [v']) = OB) ∧ (b' = false → OB = none ∧ r' = [])) := by
                obtain ⟨fu, g1, g2⟩ := HX1.out rfl
                cases hq : mq (r.drop 1) with
                | none => exact ⟨[], [], false, Lib.hid rfl, Lib.hid ⟨(fun h => by cases h), (fun _ => ⟨by rw [← g2]; exact barsF_none hp hq, rfl⟩)⟩⟩
                | some vr =>
                  obtain ⟨m, hm, e⟩ := barsF_next (acc := acc) g1 hp (show mq (r.drop 1) = some (vr.1, vr.2) from hq)
                  exact ⟨vr.1, vr.2, true, Lib.hid rfl, Lib.hid ⟨fun _ => ⟨by have := mq_len (show mq (r.drop 1) = some (vr.1, vr.2) from hq); omega, m, hm, by rw [← e, g2]⟩, (fun h => by cases h)⟩⟩
              rw [HQe.out] at HQ
              clear HQe hp HX1 HX2
              generalize r.drop 1 = x at *
              go_wp2_with fail
              refine HP.out.mono ?_
              rintro e w5 ⟨rfl, rfl⟩
              go_wp2_with fail
              refine HQ.out.mono ?_
              rintro e w6 ⟨rfl, hb6⟩
              have HM6 := Lib.hid (HM.out.below hb6 hmlt)
              have HW6 := Lib.hid (HW.out.below hb6)
              have HB6 := Lib.hid (HB.out.trans (hb6.mono HB.out.size))
              have hm6 := HM6.out.lt
              clear hb6 HM HW HB HP HQ c0 c1 c2 c3 f0 f1 f2 f3
              obtain ⟨c0, c1, c2, c3⟩ := HM6.out.cells
              obtain ⟨f0, f1, f2, f3⟩ := HM6.out.frozen
              go_wp2_with (at_builtin; refine app_str _ rfl (.tmp 73) (.tmp 75) rfl (mb + 1) _ acc v' _ rfl rfl (heap_alloc_new ..) (HW6.out.below ((Below.refl _ _).alloc (Nat.le_refl _) _)) (by simp; omega) (by omega) ?_; intro u' w7 hown7 hb7; obtain ⟨ua', uc', rfl⟩ := hown7.slice; have HW7 := Lib.hid hown7; have HB7 := Lib.hid (((Below.refl (mb + 1) w6).alloc (by omega) (.cells #[.string (bs v')] 9)).trans hb7); clear hown7 hb7; have HM7 := Lib.hid (HM6.out.below HB7.out (Nat.lt_succ_self mb)); obtain ⟨g0, g1, g2, g3⟩ := HM7.out.cells; obtain ⟨q0, q1, q2, q3⟩ := HM7.out.frozen)
              have HR2 := Lib.hid (show SRel w mb n0 OB (.string (bs r')) (.bool b') (w7.setCell ⟨mb, 3, none⟩ (.slice ua' (acc ++ [v']).length uc')) from
                ⟨acc ++ [v'], r', b', _, rfl, rfl, HM7.out.set3 _, HW7.out.setOther (Nat.lt_succ_self mb) 3 _, (HB6.out.trans (HB7.out.mono (by omega))).setCell (p := ⟨mb, 3, none⟩) hbl _, by cases b' with | true => (have := (HR'.out.1 rfl).1; omega) | false => (rw [(HR'.out.2 rfl).2]; simp), by cases b' with | true => (have := (HR'.out.1 rfl).1; simp; omega) | false => (rw [(HR'.out.2 rfl).2]; simp; omega), fun h => (HR'.out.1 h).2, fun h => (HR'.out.2 h).1⟩)
              have HMs := Lib.hid (show measB (.string (bs r')) (.bool b') < measB (.string (bs r)) (.bool true) by cases b' with | true => (have := (HR'.out.1 rfl).1; show r'.length + 1 < r.length + 1; omega) | false => (show 0 < r.length + 1; omega))
              rw [List.length_append] at HR2
              exact ⟨HR2.out, HMs.out⟩

/-- One matcher of s, if there is a sign of equality; else none. -/
def parS (s : Bytes) (o : Option (Mat × Bytes)) : Prop := (∀ nm r0, s = nm ++ 61 :: r0 → (61 : UInt8) ∉ nm → o = par1 nm r0) ∧ ((61 : UInt8) ∉ s → o = none)
theorem one_hit (nm r0 : Bytes) (w : World) (hn : (61 : UInt8) ∉ nm) (hl : (nm ++ 61 :: r0).length ≤ 100000) :
    Calls Try.prog 69 #[.string (bs (nm ++ 61 :: r0))] w (OnePost w (par1 nm r0)) :=
  one_with _ nm r0 true w (by simp at hl; omega) (Lib.hid fun w => cut_hit nm r0 61 w hn (by omega))
theorem one_miss (s : Bytes) (w : World) (hn : (61 : UInt8) ∉ s) (hl : s.length ≤ 100000) :
    Calls Try.prog 69 #[.string (bs s)] w (OnePost w none) := by
  have := one_with s s [] false w (by simp; omega) (Lib.hid fun w => cut_miss s 61 w hn (by omega))
  rwa [par1_none (show mq [] = none from rfl)] at this

end Go.Proofs.Ytamdkmcdleilpaa
