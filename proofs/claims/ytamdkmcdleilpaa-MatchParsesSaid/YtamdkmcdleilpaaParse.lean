/-
  label.Parse.
-/
import Derived.Test.YtamdkmcdleilpaaOwnL
import Derived.Test.YtamdkmcdleilpaaPlainParse
namespace Go.Proofs.Ytamdkmcdleilpaa
open Go.RowKit

theorem below_gb {B pb : Nat} {w w1 w2 : World} (h : Below B w w1) (hg : w1.grownBy w2 (some pb)) (hB : B ≤ w1.heap.size) (hp : B ≤ pb) : Below B w w2 :=
  ⟨hg.os.trans h.os, hg.tape.trans h.tape, hg.output.trans h.output, Nat.le_trans h.size hg.size, fun k hk => (hg.block k (by omega) (by intro e; cases e; omega)).trans (h.block k hk)⟩
theorem par_new (w : World) (s : Bytes) : Par w.heap.size s (w.alloc (.cells #[.string (bs s)] 80)) := heap_alloc_new w _
def strLen : Option Value → Nat
  | some (.string b) => b.size
  | _ => 0
theorem Par.len {pb : Nat} {s : Bytes} {w : World} (h : Par pb s w) : strLen (w.cell? ⟨pb, 0, none⟩) = s.length := by rw [h.cell]; rfl
theorem labels_nil (w : World) : Labels w (.slice none 0 0) [] := ⟨none, 0, rfl, by simp, by omega, fun h => absurd rfl h⟩

def errF : Option (List Lab) → Int
  | none => 11
  | some _ => 0
def ParsePost (s : Bytes) (w : World) (e : Ending) (w' : World) : Prop :=
  ∃ o v, e = .returned (.tuple #[v, .int .i64 (errF o)]) ∧ ParsedAs s o ∧ Labels w' v (o.getD []) ∧ Below w.heap.size w w'

/-- The loop of Parse. -/
def PRel (s : Bytes) (w : World) (pb : Nat) (m l : Value) (wr : World) : Prop :=
  ∃ acc rest more, m = .bool more ∧ OwnR 43 2 encLab wr (pb + 1) l acc ∧ Par pb rest wr ∧ Below w.heap.size w wr ∧ PI s acc rest more ∧ acc.length + rest.length ≤ s.length

set_option maxRecDepth 100000 in
set_option maxHeartbeats 4000000 in
theorem parse_any (s : Bytes) (w : World) (hs : s.length ≤ 1000000) :
    Calls Try.prog 41 #[.string (bs s)] w (ParsePost s w) := by
  have HP0 := Lib.hid (par_new w s)
  have HB0 := Lib.hid ((Below.refl w.heap.size w).alloc (Nat.le_refl _) (.cells #[.string (bs s)] 80))
  have hsz : w.heap.size < (w.alloc (.cells #[.string (bs s)] 80)).heap.size := by simp
  have HT := Lib.hid (take_any [123] HP0.out (by omega) (by simp))
  go_enter Try.func41, Try.ntmps41
  go_wp2_with fail
  refine HT.out.mono ?_
  rintro e w2 ⟨rfl, hp2, hg2⟩
  have HB2 := Lib.hid (below_gb HB0.out hg2 (by omega) (Nat.le_refl _))
  obtain ⟨pb, hpb⟩ : ∃ pb, pb = w.heap.size := ⟨_, rfl⟩
  have hwpb : w.heap.size ≤ pb := by omega
  rw [← hpb] at hp2 ⊢
  have HP2 := Lib.hid hp2
  have c2 := hp2.cell
  clear hpb hp2 hg2 HT HB0 HP0 hsz
  cases hb : isPre [123] s with
  | false =>
    have HR := Lib.hid (parsed_open hb)
    clear hb
    go_wp2_with fail
    go_ret2
    exact ⟨none, _, rfl, HR.out, labels_nil _, HB2.out⟩
  | true =>
    obtain ⟨r, rfl⟩ := isPre_cons hb
    have hl : leftB [123] (123 :: r) = r := by unfold leftB; rw [hb]; rfl
    rw [hl] at HP2 c2
    clear hb hl
    by_cases hr : r = [125]
    · have HR := Lib.hid (parsed_empty (s := 123 :: r) (by rw [hr]))
      have hrb : (r == [125]) = true := by rw [hr]; rfl
      clear hr
      go_wp2_with fail
      go_ret2
      exact ⟨some [], _, rfl, HR.out, labels_nil _, HB2.out⟩
    · have HI := Lib.hid (PI.start (s := 123 :: r) rfl hr)
      have hrb : (r == [125]) = false := by rw [beq_eq_false_iff_ne]; exact hr
      have hsl : (123 :: r).length = r.length + 1 := by simp
      clear hr
      go_wp2_with fail
      generalize (123 :: r) = s at *
      have HS0 := Lib.hid (show PRel s w pb (.bool true) (.slice none 0 0) w2 from ⟨[], r, true, rfl, OwnR.nil _ _, HP2.out, HB2.out, HI.out, by simp; omega⟩)
      clear HI HP2 HB2 c2 hrb hsl
      go_loopw [6, 5] (fun m l wr => PRel s w pb m l wr) (fun m l wr => strLen (wr.cell? ⟨pb, 0, none⟩))
      case atStart => exact HS0.out
      case round =>
        clear HS0
        obtain ⟨acc, rest, more, rfl, how, hp, hbl, hpi, hln⟩ := hrel
        have HO := Lib.hid how
        have HP := Lib.hid hp
        have HB := Lib.hid hbl
        have HI := Lib.hid hpi
        have c0 := hp.cell
        have HLen := Lib.hid hp.len
        have hplt := hp.lt
        clear how hp hbl hpi
        cases more with
        | true =>
          by_cases hm : (61 : UInt8) ∈ rest
          · obtain ⟨n, r0, rfl, hn⟩ := split_at hm
            clear hm
            have hln2 : (n ++ 61 :: r0).length = n.length + r0.length + 1 := by simp; omega
            have HC := Lib.hid (cut_hit n r0 61 wr hn (by omega))
            have HN := Lib.hid hn
            generalize hre : n ++ 61 :: r0 = rest at *
            have HRe := Lib.hid hre
            clear hn hre
            go_wp2_with fail
            refine HC.out.mono ?_
            rintro e w3 ⟨rfl, hb3⟩
            have HB3 := Lib.hid hb3
            have HP3 := Lib.hid (HP.out.below hb3 hplt)
            have c3 := HP3.out.cell
            have f3 := Lib.frozen_of_heap HP3.out 0
            have hplt3 := HP3.out.lt
            have HO3 := Lib.hid ((HO.out.below hb3).far (gb_set (gb_refl w3 (some pb)) (.string (bs r0))) (Nat.lt_succ_self pb))
            have HP4 := Lib.hid (HP3.out.set r0)
            have HB4 := Lib.hid (below_gb (HB.out.trans (hb3.mono HB.out.size)) (gb_set (gb_refl w3 (some pb)) (.string (bs r0))) (Nat.le_trans HB.out.size hb3.size) hwpb)
            have HV := Lib.hid (pvalue_any HP4.out (by omega))
            clear hb3 HC
            go_wp2_with fail
            generalize w3.setCell ⟨pb, 0, none⟩ (.string (bs r0)) = w4 at *
            refine HV.out.mono ?_
            rintro e w5 ⟨rfl, hp5, hg5⟩
            have hsz4 := HB4.out.size
            cases hv : valP r0 with
            | none =>
              have HR := Lib.hid (PI.none2 (by rw [← HRe.out] at HI; exact HI.out) HN.out hv)
              have HB5 := Lib.hid (below_gb HB4.out hg5 hsz4 hwpb)
              clear hp5 hg5 hv HV
              rw [show valT none = .tuple #[.string (bs []), .bool false] from rfl]
              go_wp2_with fail
              go_ret2
              exact ⟨none, _, rfl, HR.out, labels_nil _, HB5.out⟩
            | some vr =>
              obtain ⟨v, r1⟩ := vr
              have HP5 := Lib.hid (hp5 v r1 hv)
              have hq := valP_sound hv
              have hqlen := (quoteL_len0 v).1
              have hlr : r0.length = (quoteL v).length + r1.length := by rw [hq]; simp
              have HI2 := Lib.hid (PI.next (v := v) (rest := r1) (by rw [← HRe.out, hq] at HI; exact HI.out) HN.out)
              have HB5 := Lib.hid (below_gb HB4.out hg5 hsz4 hwpb)
              have HO5 := Lib.hid (HO3.out.far hg5 (Nat.lt_succ_self pb))
              have hsz5 := hg5.size
              have hplt5 := HP5.out.lt
              have hacc : acc.length ≤ 1000000000 := by omega
              have HMe := Lib.hid (show (leftB [44] r1).length ≤ r1.length by unfold leftB; split <;> simp)
              clear hp5 hg5 hv HV hq
              rw [show valT (some (v, r1)) = .tuple #[.string (bs v), .bool true] from rfl]
              go_wp2_with (at_builtin; refine app_lab _ rfl (.tmp 46) (.tmp 50) rfl (pb + 1) _ acc (n, v) _ rfl rfl (heap_alloc_new ..) (HO5.out.below ((Below.refl _ _).alloc (Nat.le_refl _) _)) (by simp; omega) (by omega) ?_; intro g' cap' w6 hown6 hb6; have HO6 := Lib.hid hown6; have HB6 := Lib.hid (((Below.refl (pb + 1) w5).alloc (by omega) _).trans hb6); clear hown6 hb6)
              have HP6 := Lib.hid (HP5.out.below HB6.out (Nat.lt_succ_self pb))
              refine (take_any [44] HP6.out (by omega) (by simp)).mono ?_
              rintro e w7 ⟨rfl, hp7, hg7⟩
              have hlp := hp7.len
              have hsz6 := HB6.out.size
              have HR := Lib.hid (show PRel s w pb (.bool (isPre [44] r1)) (.slice (some ⟨g', 0, none⟩) (acc.length + 1) cap') w7 from
                ⟨acc ++ [(n, v)], leftB [44] r1, isPre [44] r1, rfl, HO6.out.far hg7 (Nat.lt_succ_self pb), hp7, below_gb (HB5.out.trans (HB6.out.mono (by omega))) hg7 (by omega) hwpb, HI2.out, by have := HMe.out; simp; omega⟩)
              have HM := Lib.hid (show strLen (w7.cell? ⟨pb, 0, none⟩) < strLen (wr.cell? ⟨pb, 0, none⟩) by rw [hlp, HLen.out]; have := HMe.out; omega)
              clear hp7 hg7 hlp
              go_wp2_with fail
              exact ⟨HR.out, HM.out⟩
          · have HR := Lib.hid (PI.none1 HI.out hm)
            have HC := Lib.hid (cut_miss rest 61 wr hm (by omega))
            clear hm
            go_wp2_with fail
            refine HC.out.mono ?_
            rintro e w3 ⟨rfl, hb3⟩
            have HP3 := Lib.hid (HP.out.below hb3 hplt)
            have c3 := HP3.out.cell
            have f3 := Lib.frozen_of_heap HP3.out 0
            have hplt3 := HP3.out.lt
            have HP4 := Lib.hid (HP3.out.set [])
            have HB4 := Lib.hid (below_gb (HB.out.trans (hb3.mono HB.out.size)) (gb_set (gb_refl w3 (some pb)) (.string (bs []))) (Nat.le_trans HB.out.size hb3.size) hwpb)
            have HV := Lib.hid (pvalue_any HP4.out (by simp))
            clear hb3 HC
            go_wp2_with fail
            generalize w3.setCell ⟨pb, 0, none⟩ (.string (bs [])) = w4 at *
            refine HV.out.mono ?_
            rintro e w5 ⟨rfl, hp5, hg5⟩
            have hsz4 := HB4.out.size
            have HB5 := Lib.hid (below_gb HB4.out hg5 hsz4 hwpb)
            clear hp5 hg5 HV
            rw [show valT (valP []) = .tuple #[.string (bs []), .bool false] from rfl]
            go_wp2_with fail
            go_ret2
            exact ⟨none, _, rfl, HR.out, labels_nil _, HB5.out⟩
        | false =>
          by_cases hr : rest = [125]
          · have hrb : (rest == [125]) = true := by rw [hr]; rfl
            have hrb2 : (rest != [125]) = false := by rw [hr]; rfl
            have HCk := Lib.hid (check_any u5 acc wr HO.out.labels)
            rw [hr] at HI
            clear hr
            cases hc : chkL acc with
            | true =>
              have HR := Lib.hid (PI.yes HI.out hc)
              rw [hc, show errL true = 0 from rfl] at HCk
              clear hc
              go_wp2_with fail
              refine HCk.out.mono ?_
              rintro e w3 ⟨rfl, hb3⟩
              have HB3 := Lib.hid hb3
              clear hb3
              go_wp2_with fail
              go_ret2
              exact ⟨some acc, _, rfl, HR.out, HO.out.labels.below HB3.out, HB.out.trans (HB3.out.mono HB.out.size)⟩
            | false =>
              have HR := Lib.hid (PI.no2 HI.out hc)
              rw [hc] at HCk
              clear hc
              go_wp2_with fail
              refine HCk.out.mono ?_
              rintro e w3 ⟨rfl, hb3⟩
              have HB3 := Lib.hid hb3
              clear hb3
              go_wp2_with fail
              go_ret2
              exact ⟨none, _, rfl, HR.out, labels_nil _, HB.out.trans (HB3.out.mono HB.out.size)⟩
          · have HR := Lib.hid (PI.no1 HI.out hr)
            have hrb : (rest == [125]) = false := by rw [beq_eq_false_iff_ne]; exact hr
            have hrb2 : (rest != [125]) = true := by rw [bne_iff_ne]; exact hr
            clear hr
            go_wp2_with fail
            go_ret2
            exact ⟨none, _, rfl, HR.out, labels_nil _, HB.out⟩

end Go.Proofs.Ytamdkmcdleilpaa
