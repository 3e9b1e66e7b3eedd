/-
  strandlineref04.Parse.
-/
import Derived.Test.YtamdkmcdleilpaaParse
import Derived.Test.YtamdkmcdleilpaaPlainRef
namespace Go.Proofs.Ytamdkmcdleilpaa
open Go.RowKit

theorem smid_run (l : Bytes) (i k : Nat) (h1 : i ≤ k) (h2 : k ≤ l.length) (w : World) : (Instr.sliceAt 9 (.string (bs l)) (some (.int .i64 i)) (some (.int .i64 k)) none).run Try.prog w = .ok (.string (bs ((l.drop i).take (k - i)))) w := by
  rw [run_sliceAt_string _ _ _ _ _ _ Try.underlying9, run_slice_string _ _ _ _ _ _ _ Try.underlying9 (by omega) (by omega) (by rw [bs_size]; omega)]
  rw [bs_extract, Int.toNat_natCast, Int.toNat_natCast]
theorem OwnR.fresh {α : Type} {t k : Nat} {enc : α → List Value} (w : World) {base : Nat} (hb : base ≤ w.heap.size) : OwnR t k enc (w.alloc (.cells #[] t)) base (.slice (some ⟨w.heap.size, 0, none⟩) 0 0) ([] : List α) := by
  refine ⟨by simp, .inr ⟨w.heap.size, 0, #[], rfl, hb, heap_alloc_new .., by simp, by simp [maxLen], by simp, by simp⟩⟩

/-- A round of the document's Parse begins. -/
def RRel (s : Bytes) (w : World) (p l : Value) (wr : World) : Prop :=
  ∃ acc, ∃ k : Nat, p = .int .i64 k ∧ 1 ≤ k ∧ k ≤ s.length + 1 ∧ OwnR 43 2 encLab wr w.heap.size l acc ∧ Below w.heap.size w wr ∧ RI s acc k ∧ acc.length + wt acc ≤ k

set_option maxRecDepth 100000 in
set_option maxHeartbeats 4000000 in
theorem refParse_any (s : Bytes) (w : World) (hs : s.length ≤ 100000) :
    Calls Try.prog 42 #[.string (bs s)] w (ParsePost s w) := by
  have HO0 := Lib.hid (OwnR.fresh (t := 43) (k := 2) (enc := encLab) w (Nat.le_refl _))
  have HB0 := Lib.hid ((Below.refl w.heap.size w).alloc (Nat.le_refl _) (.cells #[] 43))
  by_cases hr : s = [123, 125]
  · have HR := Lib.hid (parsed_empty hr)
    have hrb : (s == [123, 125]) = true := by rw [hr]; rfl
    clear hr
    go_enter Try.func42, Try.ntmps42
    go_wp2_with fail
    go_ret2
    exact ⟨some [], _, rfl, HR.out, HO0.out.labels, HB0.out⟩
  · have HI := Lib.hid (RI.start hr)
    have hrb : (s == [123, 125]) = false := by rw [beq_eq_false_iff_ne]; exact hr
    clear hr
    go_enter Try.func42, Try.ntmps42
    go_wp2_with fail
    have HS0 := Lib.hid (show RRel s w (.int .i64 1) (.slice (some ⟨w.heap.size, 0, none⟩) 0 0) (w.alloc (.cells #[] 43)) from ⟨[], 1, rfl, by omega, by omega, HO0.out, HB0.out, HI.out, by simp [wt]⟩)
    clear HI HO0 HB0 hrb
    go_loopw [5, 4] (fun p l wr => RRel s w p l wr) (fun p _ _ => s.length + 1 - (intOf p).toNat)
    case atStart => exact HS0.out
    case round =>
      clear HS0
      obtain ⟨acc, a, rfl, ha1, ha2, how, hbl, hri, hac⟩ := hrel
      have HO := Lib.hid how
      have HB := Lib.hid hbl
      have HI := Lib.hid hri
      have hsz := hbl.size
      clear how hbl hri
      by_cases hal : a < s.length
      · go_wp2_with fail
        go_loopw [6] (fun j wq => ∃ k : Nat, a ≤ k ∧ k ≤ s.length ∧ j = .int .i64 k ∧ NoEq s a k ∧ wq = wr) (fun j _ => s.length - (intOf j).toNat)
        case atStart => exact ⟨a, Nat.le_refl _, by omega, rfl, NoEq.start s a, rfl⟩
        case round =>
          obtain ⟨k, hk1, hk2, rfl, hne, rfl⟩ := hrel
          have HN := Lib.hid hne
          clear hne
          by_cases hlt : k < s.length
          · have hix := idx_run s k hlt
            by_cases hc : byteAt s k = 61
            · have HK := Lib.hid (fun h => HI.out.none2 hlt hk1 hc HN.out h)
              have HX := Lib.hid (HI.out.next hlt hk1 hc HN.out)
              have d61 : (((byteAt s k).toNat : Int) != 61) = false := by rw [hc]; rfl
              have dlen : ((k : Int) == (s.length : Int)) = false := by rw [beq_eq_false_iff_ne]; omega
              have hfr : ∀ w, (Instr.sliceAt 9 (.string (bs s)) (some (.int .i64 ((k : Int) + 1))) none none).run Try.prog w = .ok (.string (bs (s.drop (k + 1)))) w := fun w => sfrom_run s (k + 1) (by omega) w
              have hmid := smid_run s a k hk1 (by omega)
              have HQ := Lib.hid (fun w => quoted_any (s.drop (k + 1)) w (by simp; omega))
              obtain ⟨hq1, hq2⟩ := qd_bound (s.drop (k + 1))
              have hdl : (s.drop (k + 1)).length = s.length - (k + 1) := by simp
              have hnl : ((s.drop a).take (k - a)).length ≤ k - a := by simp; omega
              rw [hdl] at hq1
              clear hdl hc
              generalize s.drop (k + 1) = r at *
              generalize (s.drop a).take (k - a) = nm at *
              generalize qd r = q at *
              obtain ⟨v, n⟩ := q
              simp only at hq1 hq2 HK HX HQ
              generalize byteAt s k = c at *
              go_wp2_with fail
              refine (HQ.out _).mono ?_
              rintro e w3 ⟨rfl, rfl⟩
              by_cases hn : n = 0
              · have hnz : ((n : Int) == 0) = true := by rw [hn]; rfl
                have HR := Lib.hid (HK.out hn)
                clear hn
                go_wp2_with fail
                go_ret2
                exact ⟨none, _, rfl, HR.out, labels_nil _, HB.out⟩
              · have hnz : ((n : Int) == 0) = false := by rw [beq_eq_false_iff_ne]; omega
                have HWT := Lib.hid (wt_snoc acc (nm, v))
                go_wp2_with (at_builtin; refine app_lab _ rfl (.tmp 46) (.tmp 53) rfl w.heap.size _ acc (nm, v) _ rfl rfl (heap_alloc_new ..) (HO.out.below ((Below.refl _ _).alloc (Nat.le_refl _) _)) (by simp; omega) (by omega) ?_; intro g' cap' w6 hown6 hb6; have HO6 := Lib.hid hown6; have HB6 := Lib.hid (HB.out.trans (((Below.refl w.heap.size wr).alloc (by omega) _).trans hb6)); clear hown6 hb6)
                go_roundw
                case rel => exact ⟨acc ++ [(nm, v)], k + 1 + n + 1, by go_num, by omega, by omega, HO6.out, HB6.out, HX.out, by rw [HWT.out]; simp; omega⟩
                case measure => simp [intOf]; omega
            · have d61 : (((byteAt s k).toNat : Int) != 61) = true := (by rw [bne_iff_ne]; intro e; exact hc (UInt8.toNat_inj.1 (by show (byteAt s k).toNat = 61; omega)))
              have HS := Lib.hid (HN.out.succ hlt hk1 hc)
              clear hc
              generalize byteAt s k = c at *
              go_wp2_with fail
              go_roundw
              case rel => exact ⟨k + 1, by omega, by omega, by go_num, HS.out, trivial⟩
              case measure => simp [intOf]; omega
          · have dlen : ((k : Int) == (s.length : Int)) = true := by rw [beq_iff_eq]; omega
            have HR := Lib.hid (HI.out.none1 hal (HN.out.all (by omega)))
            go_wp2_with fail
            go_ret2
            exact ⟨none, _, rfl, HR.out, labels_nil _, HB.out⟩
      · have HPr := Lib.hid (refPrint_any u4 acc wr HO.out.labels (by omega))
        cases hc : chkL acc with
        | false =>
          have HR := Lib.hid (HI.out.no1 hal hc)
          rw [hc] at HPr
          clear hc
          go_wp2_with fail
          refine HPr.out.mono ?_
          rintro e w3 ⟨rfl, hb3⟩
          have HB3 := Lib.hid hb3
          clear hb3
          go_wp2_with fail
          go_ret2
          exact ⟨none, _, rfl, HR.out, labels_nil _, HB.out.trans (HB3.out.mono HB.out.size)⟩
        | true =>
          rw [hc, show errL true = 0 from rfl] at HPr
          by_cases hp : printL (bodyL acc) true = s
          · have HR := Lib.hid (RI.yes hc hp)
            rw [hp] at HPr
            have hpb : (s != s) = false := by simp
            clear hc hp
            go_wp2_with fail
            refine HPr.out.mono ?_
            rintro e w3 ⟨rfl, hb3⟩
            have HB3 := Lib.hid hb3
            clear hb3
            go_wp2_with fail
            go_ret2
            exact ⟨some acc, _, rfl, HR.out, HO.out.labels.below HB3.out, HB.out.trans (HB3.out.mono HB.out.size)⟩
          · have HR := Lib.hid (HI.out.no2 hal hp)
            have hpb : (printL (bodyL acc) true != s) = true := by rw [bne_iff_ne]; exact hp
            have hpb2 : (printL (bodyL acc) true == s) = false := by rw [beq_eq_false_iff_ne]; exact hp
            generalize printL (bodyL acc) true = t at *
            clear hc hp
            go_wp2_with fail
            refine HPr.out.mono ?_
            rintro e w3 ⟨rfl, hb3⟩
            have HB3 := Lib.hid hb3
            clear hb3
            go_wp2_with fail
            go_ret2
            exact ⟨none, _, rfl, HR.out, labels_nil _, HB.out.trans (HB3.out.mono HB.out.size)⟩

end Go.Proofs.Ytamdkmcdleilpaa
