/-
  match.Parse.
-/
import Derived.Test.YtamdkmcdleilpaaOwnM
import Derived.Test.YtamdkmcdleilpaaMPrint
namespace Go.Proofs.Ytamdkmcdleilpaa
open Go.RowKit

def errP : Option (List Mat) → Int
  | none => 11
  | some _ => 0
def MParsePost (s : Bytes) (w : World) (e : Ending) (w' : World) : Prop :=
  ∃ o v, e = .returned (.tuple #[v, .int .i64 (errP o)]) ∧ ParsedM s o ∧ Matchers w' v (o.getD []) ∧ Below w.heap.size w w'
def lenB (v : Value) : Nat := match v with
  | .string s => s.size
  | _ => 0
/-- A round of match.Parse begins. -/
def QRel (s : Bytes) (w : World) (l r i : Value) (wr : World) : Prop :=
  ∃ acc rest, r = .string (bs rest) ∧ i = .bool true ∧ OwnM wr w.heap.size l acc ∧ Below w.heap.size w wr ∧ PM s acc rest ∧ acc.length + wm acc + rest.length ≤ s.length
theorem readOne_any {w : World} {r1 : Bytes} (hl : r1.length ≤ 100000) : ∃ O : Option (Mat × Bytes), (∀ nm r0, r1 = nm ++ 61 :: r0 → (61 : UInt8) ∉ nm → O = par1 nm r0) ∧ ((61 : UInt8) ∉ r1 → O = none) ∧ Calls Try.prog 69 #[.string (bs r1)] w (OnePost w O) := by
  by_cases hm : (61 : UInt8) ∈ r1
  · obtain ⟨nm, r0, rfl, hn⟩ := split_at hm
    refine ⟨par1 nm r0, fun nm' r0' e hn' => ?_, fun h => absurd hm h, one_hit nm r0 w hn hl⟩
    obtain ⟨e1, e2⟩ := cut61 hn hn' e
    rw [e1, e2]
  · refine ⟨none, fun nm r0 e hn => ?_, fun _ => rfl, one_miss r1 w hm hl⟩
    exact absurd (by rw [e]; simp) hm
theorem PM.noneO {s : Bytes} {acc : List Mat} {rest r1 : Bytes} {O : Option (Mat × Bytes)} (h : PM s acc rest) (h0 : rest ≠ [93]) (hr : rest = (if acc.isEmpty then [] else [44]) ++ r1)
    (h1 : ∀ nm r0, r1 = nm ++ 61 :: r0 → (61 : UInt8) ∉ nm → O = par1 nm r0) (hO : O = none) : ParsedM s none := by
  by_cases hm : (61 : UInt8) ∈ r1
  · obtain ⟨nm, r0, rfl, hn⟩ := split_at hm
    exact h.none2 h0 hr hn ((h1 nm r0 rfl hn).symm.trans hO)
  · exact h.none1 h0 hr hm
theorem PM.someO {s : Bytes} {acc : List Mat} {rest r1 r' : Bytes} {O : Option (Mat × Bytes)} {m : Mat} (h : PM s acc rest) (h0 : rest ≠ [93]) (hr : rest = (if acc.isEmpty then [] else [44]) ++ r1)
    (h1 : ∀ nm r0, r1 = nm ++ 61 :: r0 → (61 : UInt8) ∉ nm → O = par1 nm r0) (h2 : (61 : UInt8) ∉ r1 → O = none) (hO : O = some (m, r')) : PM s (acc ++ [m]) r' ∧ m.n.length + m.x.length + m.ss.length + sl m.ss + 1 + r'.length + 1 ≤ r1.length := by
  by_cases hm : (61 : UInt8) ∈ r1
  · obtain ⟨nm, r0, rfl, hn⟩ := split_at hm
    have e := (h1 nm r0 rfl hn).symm.trans hO
    refine ⟨h.next h0 hr hn e, ?_⟩
    have := par1_len e
    simp; omega
  · rw [h2 hm] at hO; cases hO

theorem newAt {w : World} {n : Nat} {o : Obj} (h : w.heap.size = n) : (w.alloc o).heap[n]? = some o := by rw [← h]; exact heap_alloc_new ..
theorem size4 (w : World) (b : Nat) (v0 v1 v2 v3 : Value) : ((((w.setCell ⟨b, 0, none⟩ v0).setCell ⟨b, 1, none⟩ v1).setCell ⟨b, 2, none⟩ v2).setCell ⟨b, 3, none⟩ v3).heap.size = w.heap.size := by simp [World.setCell]
theorem app_szM {w0 w : World} {o : Obj} (h : w0.heap.size ≤ w.heap.size) : w0.heap.size ≤ (w.alloc o).heap.size := by simp; omega

set_option maxRecDepth 100000 in
set_option maxHeartbeats 1000000 in
theorem mparse_any (s : Bytes) (w : World) (hs : s.length ≤ 100000) :
    Calls Try.prog 46 #[.string (bs s)] w (MParsePost s w) := by
  have HC := Lib.hid (fun w => cutPre_any s [91] w (by omega) (by simp))
  cases hb : isPre [91] s with
  | false =>
    have HR := Lib.hid (parsedM_open hb)
    have HL := Lib.hid (show leftB [91] s = s by unfold leftB; rw [hb]; rfl)
    rw [hb, HL.out] at HC
    go_enter Try.func46, Try.ntmps46
    go_wp2_with fail
    refine (HC.out _).mono ?_
    rintro e w1 ⟨rfl, rfl⟩
    go_wp2_with fail
    go_ret2
    exact ⟨none, _, rfl, HR.out, Matchers.nil _, Below.refl _ _⟩
  | true =>
    obtain ⟨r, rfl⟩ := isPre_cons hb
    have HL := Lib.hid (show leftB [91] (91 :: r) = r by unfold leftB; rw [hb]; rfl)
    rw [hb, HL.out] at HC
    have HI := Lib.hid (PM.start (s := 91 :: r) rfl)
    have hsl : (91 :: r).length = r.length + 1 := by simp
    clear hb HL
    generalize (91 :: r) = s at *
    have HS0 := Lib.hid (show QRel s w (.slice none 0 0) (.string (bs r)) (.bool true) w from ⟨[], r, rfl, rfl, OwnM.nil _ _, Below.refl _ _, HI.out, by simp [wm]; omega⟩)
    clear HI hsl
    go_enter Try.func46, Try.ntmps46
    go_wp2_with fail
    refine (HC.out _).mono ?_
    rintro e w1 ⟨rfl, rfl⟩
    go_wp2_with fail
    go_loopw [4, 5, 6] (fun l r i wr => QRel s w l r i wr) (fun _ r _ _ => lenB r)
    case atStart => exact HS0.out
    case round =>
      clear HS0 HC
      obtain ⟨acc, rest, rfl, rfl, hown, hbl, hpm, hln⟩ := hrel
      have HO := Lib.hid hown
      have HB := Lib.hid hbl
      have HI := Lib.hid hpm
      have hsz := hbl.size
      obtain ⟨la, lc, rfl⟩ := hown.slice
      clear hown hbl hpm
      by_cases h0 : rest = [93]
      · have hb1 : (rest == [93]) = true := by rw [h0]; rfl
        have hb2 : (rest != [93]) = false := by rw [h0]; rfl
        rw [h0] at HI
        have HF := Lib.hid HI.out.fin
        have HP := Lib.hid (mprint_any _ acc wr HO.out.matchers (by omega))
        clear h0
        cases hc : chkM acc with
        | false =>
          have HR := Lib.hid (fin_no1 HF.out hc)
          rw [hc, errM_false] at HP
          clear hc
          go_wp2_with fail
          refine HP.out.mono ?_
          rintro e w3 ⟨rfl, hb3⟩
          have HB3 := Lib.hid (HB.out.trans (hb3.mono hsz))
          clear hb3
          go_wp2_with fail
          go_ret2
          exact ⟨none, _, rfl, HR.out, Matchers.nil _, HB3.out⟩
        | true =>
          rw [hc, errM_true] at HP
          by_cases hp : printP (bodyM acc) true = s
          · have HR := Lib.hid (fin_yes hc hp)
            rw [hp] at HP
            have hpb : (s != s) = false := by simp
            clear hc hp
            go_wp2_with fail
            refine HP.out.mono ?_
            rintro e w3 ⟨rfl, hb3⟩
            have HB3 := Lib.hid (HB.out.trans (hb3.mono hsz))
            have HO3 := Lib.hid (HO.out.below hb3)
            clear hb3
            go_wp2_with fail
            go_ret2
            exact ⟨some acc, _, rfl, HR.out, HO3.out.matchers, HB3.out⟩
          · have HR := Lib.hid (fin_no2 HF.out hp)
            have hpb : (printP (bodyM acc) true != s) = true := by rw [bne_iff_ne]; exact hp
            have hpb2 : (printP (bodyM acc) true == s) = false := by rw [beq_eq_false_iff_ne]; exact hp
            generalize printP (bodyM acc) true = t at *
            clear hc hp
            go_wp2_with fail
            refine HP.out.mono ?_
            rintro e w3 ⟨rfl, hb3⟩
            have HB3 := Lib.hid (HB.out.trans (hb3.mono hsz))
            clear hb3
            go_wp2_with fail
            go_ret2
            exact ⟨none, _, rfl, HR.out, Matchers.nil _, HB3.out⟩
      · have hb1 : (rest == [93]) = false := by rw [beq_eq_false_iff_ne]; exact h0
        have hb2 : (rest != [93]) = true := by rw [bne_iff_ne]; exact h0
        have HX := Lib.hid (heap_alloc_new wr (.cells #[.int .i64 0, .string (bs []), .string (bs []), .slice none 0 0] 27))
        obtain ⟨W0, hW0⟩ : ∃ W0, W0 = wr.alloc (.cells #[.int .i64 0, .string (bs []), .string (bs []), .slice none 0 0] 27) := ⟨_, rfl⟩
        rw [← hW0] at HX
        have HM0 := Lib.hid (show MB W0 wr.heap.size 0 [] [] (.slice none 0 0) from HX.out)
        have HO0 := Lib.hid (show OwnM W0 w.heap.size (.slice la acc.length lc) acc by rw [hW0]; exact HO.out.below ((Below.refl _ _).alloc (Nat.le_refl _) _))
        have HB0 := Lib.hid (show Below w.heap.size w W0 by rw [hW0]; exact HB.out.alloc hsz _)
        have hsz0 := HB0.out.size
        have hbx := HM0.out.lt
        have HOf := Lib.hid (fun w' (hb : Below wr.heap.size wr w') => HO.out.below hb)
        have HBr := Lib.hid (show Below wr.heap.size wr W0 by rw [hW0]; exact (Below.refl _ _).alloc (Nat.le_refl _) _)
        clear HX HO HB
        cases ha : acc.isEmpty with
        | true =>
          have hal : ¬ ((0 : Int) < (acc.length : Int)) := by cases acc with | nil => simp | cons _ _ => cases ha
          have HRr := Lib.hid (show rest = (if acc.isEmpty then [] else [44]) ++ rest by rw [ha]; rfl)
          obtain ⟨O, hO1, hO2, hO3⟩ := readOne_any (w := W0) (r1 := rest) (by omega)
          have HRn := Lib.hid (fun h => HI.out.noneO h0 HRr.out hO1 h)
          have HRs := Lib.hid (fun m r' h => HI.out.someO (m := m) (r' := r') h0 HRr.out hO1 hO2 h)
          have HOne := Lib.hid hO3
          clear hO1 hO2 hO3 ha h0 HRr
          go_wp2_with fail
          rw [← hW0]
          clear hW0
          refine HOne.out.mono ?_
          rintro e w4 ⟨k, n, x, r', ua, ul, uc, b, rfl, hb4, hq1, hq2⟩
          have HM4 := Lib.hid (HM0.out.below hb4 hbx)
          have HO4 := Lib.hid (HO0.out.below hb4)
          have HB4 := Lib.hid (HB0.out.trans (hb4.mono hsz0))
          have HBr4 := Lib.hid (HBr.out.trans (hb4.mono (by omega)))
          have hsz4 := HB4.out.size
          have HQ1 := Lib.hid hq1
          have HQ2 := Lib.hid hq2
          have hbx4 := HM4.out.lt
          obtain ⟨c0, c1, c2, c3⟩ := HM4.out.cells
          obtain ⟨f0, f1, f2, f3⟩ := HM4.out.frozen
          clear hb4 hq1 hq2 HOne HM0 HO0 HB0 HBr HO4
          have hbb : w.heap.size ≤ wr.heap.size := hsz
          generalize wr.heap.size = bx at *
          have HMp := Lib.hid (HM4.out.put k n x (.slice ua ul uc))
          have HOp := Lib.hid (HOf.out _ (below_putM HBr4.out (Nat.le_refl _) (.int .i64 k) (.string (bs n)) (.string (bs x)) (.slice ua ul uc)))
          have HBp := Lib.hid (below_putM HB4.out hbb (.int .i64 k) (.string (bs n)) (.string (bs x)) (.slice ua ul uc))
          cases hO : O with
          | none =>
            have HR := Lib.hid (HRn.out hO)
            have HE := Lib.hid (HQ1.out hO)
            rw [HE.out]
            clear hO HRn HRs HQ1 HQ2
            go_wp2_with fail
            go_ret2
            exact ⟨none, _, rfl, HR.out, Matchers.nil _, HBp.out⟩
          | some p =>
            obtain ⟨m, r2⟩ := p
            have HR := Lib.hid (HRs.out m r2 hO)
            obtain ⟨e1, e2, e3, e4, e5, e6⟩ := HQ2.out m r2 hO
            have HS := Lib.hid e6
            rw [e5]
            obtain ⟨mk, mn, mx, mss⟩ := m
            simp only at e1 e2 e3
            subst e1 e2 e3 e4
            have HSp := Lib.hid (((((HS.out.setOther hbx 0 (.int .i64 mk)).setOther hbx 1 (.string (bs mn))).setOther hbx 2 (.string (bs mx))).setOther hbx 3 (.slice ua ul uc)).less (Nat.zero_le _))
            clear e5 e6 hO HRn HRs HQ1 HQ2 HS HBr4 HOf
            have hszp := HBp.out.size
            have HLn := Lib.hid HR.out.2
            have HWs := Lib.hid (size4 w4 bx (.int .i64 mk) (.string (bs mn)) (.string (bs mx)) (.slice ua ul uc))
            have HWm := Lib.hid (wm_snoc acc ⟨mk, mn, mx, mss⟩)
            have hacc : acc.length ≤ 1000000000 := by omega
            go_wp2_with (at_builtin; refine app_mat _ rfl (.tmp 36) (.tmp 38) rfl w.heap.size _ acc ⟨mk, mn, mx, mss⟩ ua ul uc _ rfl rfl (newAt HWs.out) (HOp.out.below ((Below.refl _ _).alloc (Nat.le_refl _) _)) (HSp.out.below ((Below.refl _ _).alloc (Nat.le_refl _) _)) (app_szM hszp) hacc ?_; intro g' cap' w6 hown6 hb6)
            have HR2 := Lib.hid (show QRel s w (.slice (some ⟨g', 0, none⟩) (acc.length + 1) cap') (.string (bs r2)) (.bool true) w6 from
              ⟨acc ++ [⟨mk, mn, mx, mss⟩], r2, rfl, rfl, hown6, (HBp.out.alloc hszp _).trans hb6, HR.out.1, by rw [HWm.out]; have := HLn.out; simp at this ⊢; omega⟩)
            have HMs := Lib.hid (show lenB (.string (bs r2)) < lenB (.string (bs rest)) by have := HLn.out; show r2.length < rest.length; omega)
            clear hown6 hb6
            exact ⟨HR2.out, HMs.out⟩
        | false =>
          have hal : (0 : Int) < (acc.length : Int) := by cases acc with | nil => cases ha | cons _ _ => simp
          have HCp := Lib.hid (cutPre_any rest [44] W0 (by omega) (by simp))
          cases hc : isPre [44] rest with
          | false =>
            have HR := Lib.hid (HI.out.none0 h0 ha hc)
            have HL := Lib.hid (show leftB [44] rest = rest by unfold leftB; rw [hc]; rfl)
            rw [hc, HL.out, hW0] at HCp
            rw [hW0] at HB0
            clear hc ha h0 hW0 hbx hsz0
            go_wp2_with fail
            refine HCp.out.mono ?_
            rintro e w3 ⟨rfl, rfl⟩
            go_wp2_with fail
            go_ret2
            exact ⟨none, _, rfl, HR.out, Matchers.nil _, HB0.out⟩
          | true =>
            obtain ⟨r1, rfl⟩ := isPre_cons hc
            have HL := Lib.hid (show leftB [44] (44 :: r1) = r1 by unfold leftB; rw [hc]; rfl)
            rw [hc, HL.out] at HCp
            have HRr := Lib.hid (show 44 :: r1 = (if acc.isEmpty then [] else [44]) ++ r1 by rw [ha]; rfl)
            have hl1 : (44 :: r1).length = r1.length + 1 := by simp
            clear hc
            generalize (44 :: r1) = rest at *
            obtain ⟨O, hO1, hO2, hO3⟩ := readOne_any (w := W0) (r1 := r1) (by omega)
            have HRn := Lib.hid (fun h => HI.out.noneO h0 HRr.out hO1 h)
            have HRs := Lib.hid (fun m r' h => HI.out.someO (m := m) (r' := r') h0 HRr.out hO1 hO2 h)
            have HOne := Lib.hid hO3
            clear hO1 hO2 hO3 ha h0 HRr
            rw [hW0] at HCp
            go_wp2_with fail
            refine HCp.out.mono ?_
            rintro e w3 ⟨rfl, rfl⟩
            clear HCp
            go_wp2_with fail
            rw [← hW0]
            clear hW0
            refine HOne.out.mono ?_
            rintro e w4 ⟨k, n, x, r', ua, ul, uc, b, rfl, hb4, hq1, hq2⟩
            have HM4 := Lib.hid (HM0.out.below hb4 hbx)
            have HO4 := Lib.hid (HO0.out.below hb4)
            have HB4 := Lib.hid (HB0.out.trans (hb4.mono hsz0))
            have HBr4 := Lib.hid (HBr.out.trans (hb4.mono (by omega)))
            have hsz4 := HB4.out.size
            have HQ1 := Lib.hid hq1
            have HQ2 := Lib.hid hq2
            have hbx4 := HM4.out.lt
            obtain ⟨c0, c1, c2, c3⟩ := HM4.out.cells
            obtain ⟨f0, f1, f2, f3⟩ := HM4.out.frozen
            clear hb4 hq1 hq2 HOne HM0 HO0 HB0 HBr HO4
            have hbb : w.heap.size ≤ wr.heap.size := hsz
            generalize wr.heap.size = bx at *
            have HMp := Lib.hid (HM4.out.put k n x (.slice ua ul uc))
            have HOp := Lib.hid (HOf.out _ (below_putM HBr4.out (Nat.le_refl _) (.int .i64 k) (.string (bs n)) (.string (bs x)) (.slice ua ul uc)))
            have HBp := Lib.hid (below_putM HB4.out hbb (.int .i64 k) (.string (bs n)) (.string (bs x)) (.slice ua ul uc))
            cases hO : O with
            | none =>
              have HR := Lib.hid (HRn.out hO)
              have HE := Lib.hid (HQ1.out hO)
              rw [HE.out]
              clear hO HRn HRs HQ1 HQ2
              go_wp2_with fail
              go_ret2
              exact ⟨none, _, rfl, HR.out, Matchers.nil _, HBp.out⟩
            | some p =>
              obtain ⟨m, r2⟩ := p
              have HR := Lib.hid (HRs.out m r2 hO)
              obtain ⟨e1, e2, e3, e4, e5, e6⟩ := HQ2.out m r2 hO
              have HS := Lib.hid e6
              rw [e5]
              obtain ⟨mk, mn, mx, mss⟩ := m
              simp only at e1 e2 e3
              subst e1 e2 e3 e4
              have HSp := Lib.hid (((((HS.out.setOther hbx 0 (.int .i64 mk)).setOther hbx 1 (.string (bs mn))).setOther hbx 2 (.string (bs mx))).setOther hbx 3 (.slice ua ul uc)).less (Nat.zero_le _))
              clear e5 e6 hO HRn HRs HQ1 HQ2 HS HBr4 HOf
              have hszp := HBp.out.size
              have HLn := Lib.hid HR.out.2
              have HWs := Lib.hid (size4 w4 bx (.int .i64 mk) (.string (bs mn)) (.string (bs mx)) (.slice ua ul uc))
              have HWm := Lib.hid (wm_snoc acc ⟨mk, mn, mx, mss⟩)
              have hacc : acc.length ≤ 1000000000 := by omega
              go_wp2_with (at_builtin; refine app_mat _ rfl (.tmp 36) (.tmp 38) rfl w.heap.size _ acc ⟨mk, mn, mx, mss⟩ ua ul uc _ rfl rfl (newAt HWs.out) (HOp.out.below ((Below.refl _ _).alloc (Nat.le_refl _) _)) (HSp.out.below ((Below.refl _ _).alloc (Nat.le_refl _) _)) (app_szM hszp) hacc ?_; intro g' cap' w6 hown6 hb6)
              have HR2 := Lib.hid (show QRel s w (.slice (some ⟨g', 0, none⟩) (acc.length + 1) cap') (.string (bs r2)) (.bool true) w6 from
                ⟨acc ++ [⟨mk, mn, mx, mss⟩], r2, rfl, rfl, hown6, (HBp.out.alloc hszp _).trans hb6, HR.out.1, by rw [HWm.out]; have := HLn.out; simp at this ⊢; omega⟩)
              have HMs := Lib.hid (show lenB (.string (bs r2)) < lenB (.string (bs rest)) by have := HLn.out; show r2.length < rest.length; omega)
              clear hown6 hb6
              exact ⟨HR2.out, HMs.out⟩

end Go.Proofs.Ytamdkmcdleilpaa
