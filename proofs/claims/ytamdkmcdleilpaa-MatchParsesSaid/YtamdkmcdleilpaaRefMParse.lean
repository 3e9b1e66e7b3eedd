/-
  strandlineref05.Parse.
-/
import Derived.Test.YtamdkmcdleilpaaMParse
import Derived.Test.YtamdkmcdleilpaaRefMPrint
namespace Go.Proofs.Ytamdkmcdleilpaa
open Go.RowKit

theorem last_at {s : Bytes} {a k : Nat} (h : a < k) (hk : k ≤ s.length) : ((s.drop a).take (k - a)).getLast? = some (byteAt s (k - 1)) ∧ ((s.drop a).take (k - a)).dropLast = (s.drop a).take (k - 1 - a) := by
  have e : (s.drop a).take (k - a) = (s.drop a).take (k - 1 - a) ++ [byteAt s (k - 1)] := by
    rw [show k - a = (k - 1 - a) + 1 by omega, take_byte (by simp; omega)]
    congr 2
    simp [byteAt, List.getD, List.getElem?_drop, show a + (k - 1 - a) = k - 1 by omega]
  rw [e]
  simp
theorem head_of {nm : Bytes} {c : UInt8} (h : nm.getLast? = some c) : (c = 33 → headM nm = (1, nm.dropLast)) ∧ (c = 94 → headM nm = (2, nm.dropLast)) ∧ (c = 64 → headM nm = (3, nm.dropLast)) ∧ (c ≠ 33 → c ≠ 94 → c ≠ 64 → headM nm = (0, nm)) := by
  unfold headM
  rw [h]
  refine ⟨fun e => by rw [e]; simp, fun e => by rw [e]; simp, fun e => by rw [e]; simp, fun e1 e2 e3 => by simp [e1, e2, e3]⟩
theorem mq_some {s : Bytes} (h : (qd s).2 ≠ 0) : mq s = some ((qd s).1, s.drop (qd s).2) := by unfold mq; rw [if_neg h]
theorem mq_zero {s : Bytes} (h : (qd s).2 = 0) : mq s = none := by unfold mq; rw [if_pos h]
/-- A round of the document's Parse begins. -/
def RRelM (s : Bytes) (w : World) (p l : Value) (wr : World) : Prop :=
  ∃ acc, ∃ k : Nat, p = .int .i64 k ∧ 1 ≤ k ∧ k ≤ s.length + 1 ∧ OwnM wr w.heap.size l acc ∧ Below w.heap.size w wr ∧ RM s acc k ∧ acc.length + wm acc ≤ k
/-- A round of the loop over a set begins. -/
def TRel (s : Bytes) (wr : World) (bx : Nat) (NM : Bytes) (OB : Option (List Bytes × Bytes)) (p : Value) (wq : World) : Prop :=
  ∃ ss u, ∃ k : Nat, p = .int .i64 k ∧ k ≤ s.length ∧ MB wq bx 3 NM [] u ∧ OwnS wq (bx + 1) u ss ∧ Below bx wr wq ∧ ss.length ≤ k ∧ (∃ fuel, (s.drop k).length < fuel ∧ barsF fuel (s.drop k) ss = OB)

theorem TRel.mk' {s NM : Bytes} {wr wq : World} {bx : Nat} {OB : Option (List Bytes × Bytes)} {p : Value} (ss : List Bytes) (u : Value) (k : Nat) (h1 : p = .int .i64 k) (h2 : k ≤ s.length) (h3 : MB wq bx 3 NM [] u) (h4 : OwnS wq (bx + 1) u ss) (h5 : Below bx wr wq) (h6 : ss.length ≤ k)
    (h7 : ∃ fuel, (s.drop k).length < fuel ∧ barsF fuel (s.drop k) ss = OB) : TRel s wr bx NM OB p wq := ⟨ss, u, k, h1, h2, h3, h4, h5, h6, h7⟩

set_option maxRecDepth 100000 in
set_option maxHeartbeats 4000000 in
theorem refMParse_any (s : Bytes) (w : World) (hs : s.length ≤ 100000) :
    Calls Try.prog 48 #[.string (bs s)] w (MParsePost s w) := by
  have HO0 := Lib.hid (OwnM.fresh w (Nat.le_refl _))
  have HB0 := Lib.hid ((Below.refl w.heap.size w).alloc (Nat.le_refl _) (.cells #[] 27))
  by_cases hr : s = [91, 93]
  · have HR := Lib.hid (parsedM_empty hr)
    have hrb : (s == [91, 93]) = true := by rw [hr]; rfl
    clear hr
    go_enter Try.func48, Try.ntmps48
    go_wp2_with fail
    go_ret2
    exact ⟨some [], _, rfl, HR.out, HO0.out.matchers, HB0.out⟩
  · have HI := Lib.hid (RM.start hr)
    have hrb : (s == [91, 93]) = false := by rw [beq_eq_false_iff_ne]; exact hr
    clear hr
    go_enter Try.func48, Try.ntmps48
    go_wp2_with fail
    have HS0 := Lib.hid (show RRelM s w (.int .i64 1) (.slice (some ⟨w.heap.size, 0, none⟩) 0 0) (w.alloc (.cells #[] 27)) from ⟨[], 1, rfl, by omega, by omega, HO0.out, HB0.out, HI.out, by simp [wm]⟩)
    clear HI HO0 HB0 hrb
    go_loopw [5, 4] (fun p l wr => RRelM s w p l wr) (fun p _ _ => s.length + 1 - (intOf p).toNat)
    case atStart => exact HS0.out
    case round =>
      clear HS0
      obtain ⟨acc, a, rfl, ha1, ha2, how, hbl, hri, hac⟩ := hrel
      have HO := Lib.hid how
      have HB := Lib.hid hbl
      have HI := Lib.hid hri
      have hsz := hbl.size
      clear how hbl hri
      by_cases hal : a < s.length
      · go_wp2_with fail
        go_loopw [6] (fun j wq => ∃ k : Nat, a ≤ k ∧ k ≤ s.length ∧ j = .int .i64 k ∧ NoEq s a k ∧ wq = wr) (fun j _ => s.length - (intOf j).toNat)
        case atStart => exact ⟨a, Nat.le_refl _, by omega, rfl, NoEq.start s a, rfl⟩
        case round =>
          obtain ⟨k, hk1, hk2, rfl, hne, rfl⟩ := hrel
          have HN := Lib.hid hne
          clear hne
          by_cases hlt : k < s.length
          · have hix := idx_run s k hlt
            by_cases hc : byteAt s k = 61
            · have d61 : (((byteAt s k).toNat : Int) != 61) = false := by rw [hc]; rfl
              have dlen : ((k : Int) == (s.length : Int)) = false := by rw [beq_eq_false_iff_ne]; omega
              by_cases hka : k = a
              · have dka : ((k : Int) == (a : Int)) = true := by rw [hka]; simp
                have HR := Lib.hid (show ParsedM s none by rw [← hka] at HI; exact HI.out.none2 hlt hc)
                clear hc hka
                generalize byteAt s k = c at *
                go_wp2_with fail
                go_ret2
                exact ⟨none, _, rfl, HR.out, Matchers.nil _, HB.out⟩
              · have dka : ((k : Int) == (a : Int)) = false := by rw [beq_eq_false_iff_ne]; omega
                have HN3 := Lib.hid (fun h => HI.out.none3 hlt hk1 hc HN.out h)
                have HNext := Lib.hid (fun m r p h hp => HI.out.next (m := m) (r := r) (p := p) hlt hk1 hc HN.out h hp)
                obtain ⟨hl1, hl2⟩ := last_at (s := s) (a := a) (k := k) (by omega) (by omega)
                have HHd := Lib.hid (head_of hl1)
                have hfr : ∀ w, (Instr.sliceAt 9 (.string (bs s)) (some (.int .i64 ((k : Int) + 1))) none none).run Try.prog w = .ok (.string (bs (s.drop (k + 1)))) w := fun w => sfrom_run s (k + 1) (by omega) w
                have hmid := smid_run s a k hk1 (by omega)
                have hmid1 : ∀ w, (Instr.sliceAt 9 (.string (bs s)) (some (.int .i64 a)) (some (.int .i64 ((k : Int) - 1))) none).run Try.prog w = .ok (.string (bs ((s.drop a).take (k - 1 - a)))) w := fun w => by
                  have := smid_run s a (k - 1) (by omega) (by omega) w
                  rwa [show ((k - 1 : Nat) : Int) = (k : Int) - 1 by omega] at this
                have hix1 : ∀ w, (Instr.index 9 (.string (bs s)) (.int .i64 ((k : Int) - 1))).run Try.prog w = .ok (.int .u8 (byteAt s (k - 1)).toNat) w := fun w => by
                  have := idx_run s (k - 1) (by omega) w
                  rwa [show ((k - 1 : Nat) : Int) = (k : Int) - 1 by omega] at this
                rw [← hl2] at hmid1
                have HQ := Lib.hid (fun w => quoted_any (s.drop (k + 1)) w (by simp; omega))
                obtain ⟨hq1, hq2⟩ := qd_bound (s.drop (k + 1))
                have hdl : (s.drop (k + 1)).length = s.length - (k + 1) := by simp
                have hnl : ((s.drop a).take (k - a)).length ≤ k - a := by simp; omega
                have HDr := Lib.hid (show s.drop (k + 1 + (qd (s.drop (k + 1))).2) = (s.drop (k + 1)).drop (qd (s.drop (k + 1))).2 by rw [List.drop_drop])
                have HDl := Lib.hid hdl
                rw [hdl] at hq1
                have hacc : acc.length ≤ 1000000000 := by omega
                have HOf := Lib.hid (fun w' (hb : Below wr.heap.size wr w') => HO.out.below hb)
                clear hc hka hl1 hl2 hdl HO
                generalize s.drop (k + 1) = r0 at *
                generalize (s.drop a).take (k - a) = nm at *
                have hr0a : r0.length ≤ s.length - (k + 1) := by have := HDl.out; omega
                have hr0b : s.length - (k + 1) ≤ r0.length := by have := HDl.out; omega
                have HN0 := Lib.hid (fun h => HN3.out (par1_none (mq_zero (s := r0) h)))
                have HLen := Lib.hid (fun m r' (h : par1 nm r0 = some (m, r')) => show m.n.length + m.x.length + m.ss.length + sl m.ss + 1 + r'.length ≤ (k - a) + (s.length - (k + 1)) by have := par1_len h; have := HDl.out; omega)
                generalize byteAt s (k - 1) = c1 at *
                generalize byteAt s k = c at *
                by_cases q1 : c1 = 33
                · have b1 : ((c1.toNat : Int) == 33) = true := by rw [q1]; rfl
                  have HH := Lib.hid (HHd.out.1 q1)
                  have hNM : (nm.dropLast).length ≤ nm.length := by simp
                  have HLo := Lib.hid (fun (hn : (qd r0).2 ≠ 0) => show par1 nm r0 = some (⟨1, nm.dropLast, (qd r0).1, []⟩, r0.drop (qd r0).2) by have := par1_lo (nm := nm) (mq_some hn) (by rw [HH.out]; show (1 : Int) < 3; decide); rw [HH.out] at this; exact this)
                  have HHi := Lib.hid trivial
                  clear HHd HH HN3 q1
                  generalize (nm.dropLast) = NM at *
                  generalize hv0 : (qd r0).1 = v at *
                  generalize hn0 : (qd r0).2 = n at *
                  clear hv0 hn0
                  go_wp2_with fail
                  refine (HQ.out _).mono ?_
                  rintro e w3 ⟨rfl, rfl⟩
                  by_cases hn : n = 0
                  · have hnz : ((n : Int) == 0) = true := by rw [hn]; rfl
                    have HR := Lib.hid (HN0.out hn)
                    have HBe := Lib.hid (fun o => HB.out.alloc hsz o)
                    clear hn
                    go_wp2_with fail
                    go_ret2
                    exact ⟨none, _, rfl, HR.out, Matchers.nil _, HBe.out _⟩
                  · have hnz : ((n : Int) == 0) = false := by rw [beq_eq_false_iff_ne]; omega
                    have HNx := Lib.hid (show RM s (acc ++ [⟨1, NM, v, []⟩]) (k + 1 + n + 1) from HNext.out _ _ (k + 1 + n) (HLo.out hn) (HDr.out))
                    have hwl := HLen.out _ _ (HLo.out hn)
                    have HOp := Lib.hid (HOf.out _ ((Below.refl wr.heap.size wr).alloc (Nat.le_refl _) (.cells #[.int .i64 1, .string (bs NM), .string (bs v), .slice none 0 0] 27)))
                    have HBp := Lib.hid (HB.out.alloc hsz (.cells #[.int .i64 1, .string (bs NM), .string (bs v), .slice none 0 0] 27))
                    clear HNext HLo HHi HLen HN0 HDr hn HOf
                    have hszp := HBp.out.size
                    go_wp2_with (at_builtin; refine app_mat _ rfl (.tmp 132) (.tmp 134) rfl w.heap.size _ acc ⟨1, NM, v, []⟩ none 0 0 _ rfl rfl (by simpa using heap_alloc_new (wr.alloc (.cells #[.int .i64 1, .string (bs NM), .string (bs v), .slice none 0 0] 27)) (.cells #[.int .i64 1, .string (bs NM), .string (bs v), .slice none 0 0] 27)) (HOp.out.below ((Below.refl _ _).alloc (Nat.le_refl _) _)) (OwnS.nil _ _) (app_szM hszp) hacc ?_; intro g' cap' w6 hown6 hb6)
                    have HR2 := Lib.hid (show RRelM s w (.int .i64 (((k : Int) + 1 + n) + 1)) (.slice (some ⟨g', 0, none⟩) (acc.length + 1) cap') w6 from
                      ⟨acc ++ [⟨1, NM, v, []⟩], (k + 1 + n) + 1, by go_num, by omega, by omega, hown6, (HBp.out.alloc hszp _).trans hb6, HNx.out, by rw [wm_snoc]; simp [sl]; simp [sl] at hwl; omega⟩)
                    clear hown6 hb6
                    go_roundw
                    case rel => exact HR2.out
                    case measure => simp [intOf]; omega
                · have b1 : ((c1.toNat : Int) == 33) = false := (by rw [beq_eq_false_iff_ne]; intro e; exact q1 (UInt8.toNat_inj.1 (by show c1.toNat = 33; omega)))
                  by_cases q2 : c1 = 94
                  · have b2 : ((c1.toNat : Int) == 94) = true := by rw [q2]; rfl
                    have HH := Lib.hid (HHd.out.2.1 q2)
                    have hNM : (nm.dropLast).length ≤ nm.length := by simp
                    have HLo := Lib.hid (fun (hn : (qd r0).2 ≠ 0) => show par1 nm r0 = some (⟨2, nm.dropLast, (qd r0).1, []⟩, r0.drop (qd r0).2) by have := par1_lo (nm := nm) (mq_some hn) (by rw [HH.out]; show (2 : Int) < 3; decide); rw [HH.out] at this; exact this)
                    have HHi := Lib.hid trivial
                    clear HHd HH HN3 q1 q2
                    generalize (nm.dropLast) = NM at *
                    generalize hv0 : (qd r0).1 = v at *
                    generalize hn0 : (qd r0).2 = n at *
                    clear hv0 hn0
                    go_wp2_with fail
                    refine (HQ.out _).mono ?_
                    rintro e w3 ⟨rfl, rfl⟩
                    by_cases hn : n = 0
                    · have hnz : ((n : Int) == 0) = true := by rw [hn]; rfl
                      have HR := Lib.hid (HN0.out hn)
                      have HBe := Lib.hid (fun o => HB.out.alloc hsz o)
                      clear hn
                      go_wp2_with fail
                      go_ret2
                      exact ⟨none, _, rfl, HR.out, Matchers.nil _, HBe.out _⟩
                    · have hnz : ((n : Int) == 0) = false := by rw [beq_eq_false_iff_ne]; omega
                      have HNx := Lib.hid (show RM s (acc ++ [⟨2, NM, v, []⟩]) (k + 1 + n + 1) from HNext.out _ _ (k + 1 + n) (HLo.out hn) (HDr.out))
                      have hwl := HLen.out _ _ (HLo.out hn)
                      have HOp := Lib.hid (HOf.out _ ((Below.refl wr.heap.size wr).alloc (Nat.le_refl _) (.cells #[.int .i64 2, .string (bs NM), .string (bs v), .slice none 0 0] 27)))
                      have HBp := Lib.hid (HB.out.alloc hsz (.cells #[.int .i64 2, .string (bs NM), .string (bs v), .slice none 0 0] 27))
                      clear HNext HLo HHi HLen HN0 HDr hn HOf
                      have hszp := HBp.out.size
                      go_wp2_with (at_builtin; refine app_mat _ rfl (.tmp 132) (.tmp 134) rfl w.heap.size _ acc ⟨2, NM, v, []⟩ none 0 0 _ rfl rfl (by simpa using heap_alloc_new (wr.alloc (.cells #[.int .i64 2, .string (bs NM), .string (bs v), .slice none 0 0] 27)) (.cells #[.int .i64 2, .string (bs NM), .string (bs v), .slice none 0 0] 27)) (HOp.out.below ((Below.refl _ _).alloc (Nat.le_refl _) _)) (OwnS.nil _ _) (app_szM hszp) hacc ?_; intro g' cap' w6 hown6 hb6)
                      have HR2 := Lib.hid (show RRelM s w (.int .i64 (((k : Int) + 1 + n) + 1)) (.slice (some ⟨g', 0, none⟩) (acc.length + 1) cap') w6 from
                        ⟨acc ++ [⟨2, NM, v, []⟩], (k + 1 + n) + 1, by go_num, by omega, by omega, hown6, (HBp.out.alloc hszp _).trans hb6, HNx.out, by rw [wm_snoc]; simp [sl]; simp [sl] at hwl; omega⟩)
                      clear hown6 hb6
                      go_roundw
                      case rel => exact HR2.out
                      case measure => simp [intOf]; omega
                  · have b2 : ((c1.toNat : Int) == 94) = false := (by rw [beq_eq_false_iff_ne]; intro e; exact q2 (UInt8.toNat_inj.1 (by show c1.toNat = 94; omega)))
                    by_cases q3 : c1 = 64
                    · have b3 : ((c1.toNat : Int) == 64) = true := by rw [q3]; rfl
                      have HH := Lib.hid (HHd.out.2.2.1 q3)
                      have hNM : (nm.dropLast).length ≤ nm.length := by simp
                      have HHi := Lib.hid (fun (hn : (qd r0).2 ≠ 0) => show par1 nm r0 = (barsF ((r0.drop (qd r0).2).length + 1) (r0.drop (qd r0).2) [(qd r0).1]).map fun x => (⟨3, nm.dropLast, [], x.1⟩, x.2) by have := par1_hi (nm := nm) (mq_some hn) (by rw [HH.out]; show ¬ ((3 : Int) < 3); decide); rw [HH.out] at this; exact this)
                      clear HHd HH q1 q2 q3
                      generalize (nm.dropLast) = NM at *
                      generalize hv0 : (qd r0).1 = v at *
                      generalize hn0 : (qd r0).2 = n at *
                      clear hv0 hn0
                      go_wp2_with fail
                      refine (HQ.out _).mono ?_
                      rintro e w3 ⟨rfl, rfl⟩
                      by_cases hn : n = 0
                      · have hnz : ((n : Int) == 0) = true := by rw [hn]; rfl
                        have HR := Lib.hid (HN0.out hn)
                        have HBe := Lib.hid (fun o => HB.out.alloc hsz o)
                        clear hn
                        go_wp2_with fail
                        go_ret2
                        exact ⟨none, _, rfl, HR.out, Matchers.nil _, HBe.out _⟩
                      · have hnz : ((n : Int) == 0) = false := by rw [beq_eq_false_iff_ne]; omega
                        obtain ⟨OB, hOB⟩ : ∃ OB, OB = barsF ((r0.drop n).length + 1) (r0.drop n) [v] := ⟨_, rfl⟩
                        have HPar := Lib.hid (HHi.out hn)
                        rw [← hOB] at HPar
                        have HNone := Lib.hid (fun (h : OB = none) => HN3.out (by rw [HPar.out, h]; rfl))
                        have HSome := Lib.hid (fun ss r2 (h : OB = some (ss, r2)) p (hp : s.drop p = r2) => show RM s (acc ++ [⟨3, NM, [], ss⟩]) (p + 1) ∧ NM.length + ss.length + sl ss + 1 + r2.length ≤ (k - a) + (s.length - (k + 1)) from by
                          have e : par1 nm r0 = some (⟨3, NM, [], ss⟩, r2) := by rw [HPar.out, h]; rfl
                          refine ⟨HNext.out _ _ p e hp, ?_⟩
                          have := HLen.out _ _ e
                          simp at this; omega)
                        have HOB := Lib.hid (show barsF ((s.drop (k + 1 + n)).length + 1) (s.drop (k + 1 + n)) [v] = OB by rw [HDr.out, hOB])
                        clear hOB HPar HNext HLen HHi HN0 HN3 hn HDl HDr
                        obtain ⟨W1, hW1⟩ : ∃ W1, W1 = wr.alloc (.cells #[.int .i64 3, .string (bs NM), .string (bs []), .slice none 0 0] 27) := ⟨_, rfl⟩
                        have HM1 := Lib.hid (show MB W1 wr.heap.size 3 NM [] (.slice none 0 0) by rw [hW1]; exact heap_alloc_new ..)
                        have HBr1 := Lib.hid (show Below wr.heap.size wr W1 by rw [hW1]; exact (Below.refl _ _).alloc (Nat.le_refl _) _)
                        rw [← hW1]
                        clear hW1
                        obtain ⟨c0, c1', c2, c3⟩ := HM1.out.cells
                        obtain ⟨f0, f1, f2, f3⟩ := HM1.out.frozen
                        have hbx1 := HM1.out.lt
                        obtain ⟨bx, hbx⟩ : ∃ bx, bx = wr.heap.size := ⟨_, rfl⟩
                        have hszb : w.heap.size ≤ bx := by omega
                        rw [← hbx] at HM1 HBr1 HOf c0 c1' c2 c3 f0 f1 f2 f3 hbx1 ⊢
                        clear hbx
                        go_wp2_with (at_builtin; refine app_str _ rfl (.tmp 97) (.tmp 99) rfl (bx + 1) _ [] v _ rfl rfl (heap_alloc_new ..) (OwnS.nil _ _) (by simp; omega) (by simp) ?_; intro u' w7 hown7 hb7; obtain ⟨ua', uc', rfl⟩ := hown7.slice; have HW7 := Lib.hid hown7; have HB7 := Lib.hid (((Below.refl (bx + 1) W1).alloc (by omega) (.cells #[.string (bs v)] 9)).trans hb7); clear hown7 hb7; have HM7 := Lib.hid (HM1.out.below HB7.out (Nat.lt_succ_self bx)); obtain ⟨g0, g1, g2, g3⟩ := HM7.out.cells; obtain ⟨q0, q1', q2', q3'⟩ := HM7.out.frozen)
                        have HT0 := Lib.hid (show TRel s wr bx NM OB (.int .i64 ((k : Int) + 1 + n)) (w7.setCell ⟨bx, 3, none⟩ (.slice ua' ([] ++ [v]).length uc')) from
                          ⟨[v], _, k + 1 + n, by go_num, by omega, HM7.out.set3 _, HW7.out.setOther (Nat.lt_succ_self bx) 3 _, (HBr1.out.trans (HB7.out.mono (Nat.le_succ bx))).setCell (p := ⟨bx, 3, none⟩) (Nat.le_refl _) _, by simp; omega, _, Nat.lt_succ_self _, HOB.out⟩)
                        clear HM7 HW7 HB7 g0 g1 g2 g3 q0 q1' q2' q3' c0 c1' c2 c3 f0 f1 f2 f3 HM1 HBr1 HOB
                        go_loopw [5] (fun p wq => TRel s wr bx NM OB p wq) (fun p _ => s.length - (intOf p).toNat)
                        case atStart => exact HT0.out
                        case round =>
                          clear HT0
                          obtain ⟨ss, u, p, rfl, hp1, hm, ho, hbq, hssl, hfu⟩ := hrel
                          have HM := Lib.hid hm
                          have HW := Lib.hid ho
                          have HBq := Lib.hid hbq
                          have HFu := Lib.hid hfu
                          have hmlt := hm.lt
                          clear hm ho hbq hfu
                          obtain ⟨ua, uc, rfl⟩ := HW.out.slice
                          obtain ⟨c0, c1', c2, c3⟩ := HM.out.cells
                          obtain ⟨f0, f1, f2, f3⟩ := HM.out.frozen
                          have HBp := Lib.hid (HB.out.trans (HBq.out.mono hszb))
                          have HOp := Lib.hid (HOf.out _ HBq.out)
                          have HDp := Lib.hid (show (s.drop p).length = s.length - p by simp)
                          have HEnd := Lib.hid (fun (h : isPre [124] (s.drop p) = false) => show RM s (acc ++ [⟨3, NM, [], ss⟩]) (p + 1) ∧ NM.length + ss.length + sl ss + 1 + (s.length - p) ≤ (k - a) + (s.length - (k + 1)) from by
                            obtain ⟨fu, g1, g2⟩ := HFu.out
                            rw [barsF_end g1 h] at g2
                            have := HSome.out _ _ g2.symm p rfl
                            rw [HDp.out] at this; exact this)
                          by_cases hpl : p < s.length
                          · have hixp := idx_run s p hpl
                            have HDd := Lib.hid (drop_byte hpl)
                            by_cases hc : byteAt s p = 124
                            · have d1 : (((byteAt s p).toNat : Int) == 124) = true := by rw [hc]; rfl
                              have HPre := Lib.hid (show isPre [124] (s.drop p) = true by rw [HDd.out, hc]; rfl)
                              have HDs := Lib.hid (show (s.drop p).drop 1 = s.drop (p + 1) by rw [List.drop_drop])
                              have hfrp : ∀ w, (Instr.sliceAt 9 (.string (bs s)) (some (.int .i64 ((p : Int) + 1))) none none).run Try.prog w = .ok (.string (bs (s.drop (p + 1)))) w := fun w => sfrom_run s (p + 1) (by omega) w
                              have HQ2 := Lib.hid (fun w => quoted_any (s.drop (p + 1)) w (by simp; omega))
                              obtain ⟨hq3, hq4⟩ := qd_bound (s.drop (p + 1))
                              have hd2 : (s.drop (p + 1)).length ≤ s.length - (p + 1) := by simp
                              have HNx := Lib.hid (fun (h : (qd (s.drop (p + 1))).2 ≠ 0) => show ∃ fuel, (s.drop (p + 1 + (qd (s.drop (p + 1))).2)).length < fuel ∧ barsF fuel (s.drop (p + 1 + (qd (s.drop (p + 1))).2)) (ss ++ [(qd (s.drop (p + 1))).1]) = OB from by
                                obtain ⟨fu, g1, g2⟩ := HFu.out
                                obtain ⟨m, hm, e⟩ := barsF_next (acc := ss) g1 HPre.out (by rw [HDs.out]; exact mq_some h)
                                rw [List.drop_drop] at hm e
                                exact ⟨m, hm, by rw [← e, g2]⟩)
                              have HNn := Lib.hid (fun (h : (qd (s.drop (p + 1))).2 = 0) => HNone.out (by
                                obtain ⟨fu, g1, g2⟩ := HFu.out
                                rw [← g2]; exact barsF_none HPre.out (by rw [HDs.out]; exact mq_zero h)))
                              clear hc HPre HDs HEnd HFu HDd
                              generalize byteAt s p = cp at *
                              generalize s.drop (p + 1) = r1 at *
                              generalize hv0 : (qd r1).1 = v1 at *
                              generalize hn0 : (qd r1).2 = n1 at *
                              clear hv0 hn0
                              go_wp2_with fail
                              refine (HQ2.out _).mono ?_
                              rintro e w8 ⟨rfl, rfl⟩
                              by_cases hn1 : n1 = 0
                              · have hnz1 : ((n1 : Int) == 0) = true := by rw [hn1]; rfl
                                have HR := Lib.hid (HNn.out hn1)
                                clear hn1
                                go_wp2_with fail
                                go_ret2
                                exact ⟨none, _, rfl, HR.out, Matchers.nil _, HBp.out⟩
                              · have hnz1 : ((n1 : Int) == 0) = false := by rw [beq_eq_false_iff_ne]; omega
                                have HFn := Lib.hid (HNx.out hn1)
                                clear hn1
                                go_wp2_with (at_builtin; refine app_str _ rfl (.tmp 123) (.tmp 125) rfl (bx + 1) _ ss v1 _ rfl rfl (heap_alloc_new ..) (HW.out.below ((Below.refl _ _).alloc (Nat.le_refl _) _)) (by simp; omega) (by omega) ?_; intro u' w7 hown7 hb7; obtain ⟨ua', uc', rfl⟩ := hown7.slice; have HW7 := Lib.hid hown7; have HB7 := Lib.hid (((Below.refl (bx + 1) wr).alloc (by omega) (.cells #[.string (bs v1)] 9)).trans hb7); clear hown7 hb7; have HM7 := Lib.hid (HM.out.below HB7.out (Nat.lt_succ_self bx)); obtain ⟨g0, g1, g2, g3⟩ := HM7.out.cells; obtain ⟨q0, q1', q2', q3'⟩ := HM7.out.frozen)
                                have HT1 := Lib.hid (TRel.mk' (p := .int .i64 ((p : Int) + 1 + n1)) (ss ++ [v1]) (.slice ua' (ss ++ [v1]).length uc') (p + 1 + n1) (by go_num) (by omega) (HM7.out.set3 _) (HW7.out.setOther (Nat.lt_succ_self bx) 3 _) ((HBq.out.trans (HB7.out.mono (Nat.le_succ bx))).setCell (p := ⟨bx, 3, none⟩) (Nat.le_refl _) _) (by simp; omega) HFn.out)
                                rw [List.length_append] at HT1
                                exact ⟨HT1.out, by simp [intOf]; omega⟩
                            · have d1 : (((byteAt s p).toNat : Int) == 124) = false := (by rw [beq_eq_false_iff_ne]; intro e; exact hc (UInt8.toNat_inj.1 (by show (byteAt s p).toNat = 124; omega)))
                              obtain ⟨e1, hwl⟩ := HEnd.out (by rw [HDd.out]; simp [isPre, hc])
                              have HNx := Lib.hid e1
                              clear e1 hc HEnd HFu HDd HOf
                              generalize byteAt s p = cp at *
                              have hszp := HBp.out.size
                              go_wp2_with (at_builtin; refine app_mat _ rfl (.tmp 132) (.tmp 134) rfl w.heap.size _ acc ⟨3, NM, [], ss⟩ ua ss.length uc _ rfl rfl (heap_alloc_new ..) (HOp.out.below ((Below.refl _ _).alloc (Nat.le_refl _) _)) ((HW.out.less (Nat.zero_le _)).below ((Below.refl _ _).alloc (Nat.le_refl _) _)) (app_szM hszp) hacc ?_; intro g' cap' w6 hown6 hb6)
                              have HR2 := Lib.hid (show RRelM s w (.int .i64 ((p : Int) + 1)) (.slice (some ⟨g', 0, none⟩) (acc.length + 1) cap') w6 from
                                ⟨acc ++ [⟨3, NM, [], ss⟩], p + 1, by go_num, by omega, by omega, hown6, (HBp.out.alloc hszp _).trans hb6, HNx.out, by rw [wm_snoc]; simp [sl]; simp [sl] at hwl; omega⟩)
                              clear hown6 hb6
                              go_roundw
                              case rel => exact HR2.out
                              case measure => simp [intOf]; omega
                          · obtain ⟨e1, hwl⟩ := HEnd.out (by rw [List.drop_of_length_le (by omega)]; rfl)
                            have HNx := Lib.hid e1
                            clear e1 HEnd HFu HOf
                            have hszp := HBp.out.size
                            go_wp2_with (at_builtin; refine app_mat _ rfl (.tmp 132) (.tmp 134) rfl w.heap.size _ acc ⟨3, NM, [], ss⟩ ua ss.length uc _ rfl rfl (heap_alloc_new ..) (HOp.out.below ((Below.refl _ _).alloc (Nat.le_refl _) _)) ((HW.out.less (Nat.zero_le _)).below ((Below.refl _ _).alloc (Nat.le_refl _) _)) (app_szM hszp) hacc ?_; intro g' cap' w6 hown6 hb6)
                            have HR2 := Lib.hid (show RRelM s w (.int .i64 ((p : Int) + 1)) (.slice (some ⟨g', 0, none⟩) (acc.length + 1) cap') w6 from
                              ⟨acc ++ [⟨3, NM, [], ss⟩], p + 1, by go_num, by omega, by omega, hown6, (HBp.out.alloc hszp _).trans hb6, HNx.out, by rw [wm_snoc]; simp [sl]; simp [sl] at hwl; omega⟩)
                            clear hown6 hb6
                            go_roundw
                            case rel => exact HR2.out
                            case measure => simp [intOf]; omega
                    · have b3 : ((c1.toNat : Int) == 64) = false := (by rw [beq_eq_false_iff_ne]; intro e; exact q3 (UInt8.toNat_inj.1 (by show c1.toNat = 64; omega)))
                      have HH := Lib.hid (HHd.out.2.2.2 q1 q2 q3)
                      have hNM : (nm).length ≤ nm.length := by simp
                      have HLo := Lib.hid (fun (hn : (qd r0).2 ≠ 0) => show par1 nm r0 = some (⟨0, nm, (qd r0).1, []⟩, r0.drop (qd r0).2) by have := par1_lo (nm := nm) (mq_some hn) (by rw [HH.out]; show (0 : Int) < 3; decide); rw [HH.out] at this; exact this)
                      have HHi := Lib.hid trivial
                      clear HHd HH HN3 q1 q2 q3
                      generalize (nm) = NM at *
                      generalize hv0 : (qd r0).1 = v at *
                      generalize hn0 : (qd r0).2 = n at *
                      clear hv0 hn0
                      go_wp2_with fail
                      refine (HQ.out _).mono ?_
                      rintro e w3 ⟨rfl, rfl⟩
                      by_cases hn : n = 0
                      · have hnz : ((n : Int) == 0) = true := by rw [hn]; rfl
                        have HR := Lib.hid (HN0.out hn)
                        have HBe := Lib.hid (fun o => HB.out.alloc hsz o)
                        clear hn
                        go_wp2_with fail
                        go_ret2
                        exact ⟨none, _, rfl, HR.out, Matchers.nil _, HBe.out _⟩
                      · have hnz : ((n : Int) == 0) = false := by rw [beq_eq_false_iff_ne]; omega
                        have HNx := Lib.hid (show RM s (acc ++ [⟨0, NM, v, []⟩]) (k + 1 + n + 1) from HNext.out _ _ (k + 1 + n) (HLo.out hn) (HDr.out))
                        have hwl := HLen.out _ _ (HLo.out hn)
                        have HOp := Lib.hid (HOf.out _ ((Below.refl wr.heap.size wr).alloc (Nat.le_refl _) (.cells #[.int .i64 0, .string (bs NM), .string (bs v), .slice none 0 0] 27)))
                        have HBp := Lib.hid (HB.out.alloc hsz (.cells #[.int .i64 0, .string (bs NM), .string (bs v), .slice none 0 0] 27))
                        clear HNext HLo HHi HLen HN0 HDr hn HOf
                        have hszp := HBp.out.size
                        go_wp2_with (at_builtin; refine app_mat _ rfl (.tmp 132) (.tmp 134) rfl w.heap.size _ acc ⟨0, NM, v, []⟩ none 0 0 _ rfl rfl (by simpa using heap_alloc_new (wr.alloc (.cells #[.int .i64 0, .string (bs NM), .string (bs v), .slice none 0 0] 27)) (.cells #[.int .i64 0, .string (bs NM), .string (bs v), .slice none 0 0] 27)) (HOp.out.below ((Below.refl _ _).alloc (Nat.le_refl _) _)) (OwnS.nil _ _) (app_szM hszp) hacc ?_; intro g' cap' w6 hown6 hb6)
                        have HR2 := Lib.hid (show RRelM s w (.int .i64 (((k : Int) + 1 + n) + 1)) (.slice (some ⟨g', 0, none⟩) (acc.length + 1) cap') w6 from
                          ⟨acc ++ [⟨0, NM, v, []⟩], (k + 1 + n) + 1, by go_num, by omega, by omega, hown6, (HBp.out.alloc hszp _).trans hb6, HNx.out, by rw [wm_snoc]; simp [sl]; simp [sl] at hwl; omega⟩)
                        clear hown6 hb6
                        go_roundw
                        case rel => exact HR2.out
                        case measure => simp [intOf]; omega
            · have d61 : (((byteAt s k).toNat : Int) != 61) = true := (by rw [bne_iff_ne]; intro e; exact hc (UInt8.toNat_inj.1 (by show (byteAt s k).toNat = 61; omega)))
              have HS := Lib.hid (HN.out.succ hlt hk1 hc)
              clear hc
              generalize byteAt s k = c at *
              go_wp2_with fail
              go_roundw
              case rel => exact ⟨k + 1, by omega, by omega, by go_num, HS.out, trivial⟩
              case measure => simp [intOf]; omega
          · have dlen : ((k : Int) == (s.length : Int)) = true := by rw [beq_iff_eq]; omega
            have HR := Lib.hid (HI.out.none1 hal (HN.out.all (by omega)))
            go_wp2_with fail
            go_ret2
            exact ⟨none, _, rfl, HR.out, Matchers.nil _, HB.out⟩
      · have HF := Lib.hid (HI.out.fin hal)
        have HPr := Lib.hid (refMPrint_any u4 acc wr HO.out.matchers (by omega))
        cases hc : chkM acc with
        | false =>
          have HR := Lib.hid (fin_no1 HF.out hc)
          rw [hc, errM_false] at HPr
          clear hc
          go_wp2_with fail
          refine HPr.out.mono ?_
          rintro e w3 ⟨rfl, hb3⟩
          have HB3 := Lib.hid (HB.out.trans (hb3.mono hsz))
          clear hb3
          go_wp2_with fail
          go_ret2
          exact ⟨none, _, rfl, HR.out, Matchers.nil _, HB3.out⟩
        | true =>
          rw [hc, errM_true] at HPr
          by_cases hp : printP (bodyM acc) true = s
          · have HR := Lib.hid (fin_yes hc hp)
            rw [hp] at HPr
            have hpb : (s != s) = false := by simp
            clear hc hp
            go_wp2_with fail
            refine HPr.out.mono ?_
            rintro e w3 ⟨rfl, hb3⟩
            have HB3 := Lib.hid (HB.out.trans (hb3.mono hsz))
            have HO3 := Lib.hid (HO.out.below hb3)
            clear hb3
            go_wp2_with fail
            go_ret2
            exact ⟨some acc, _, rfl, HR.out, HO3.out.matchers, HB3.out⟩
          · have HR := Lib.hid (fin_no2 HF.out hp)
            have hpb : (printP (bodyM acc) true != s) = true := by rw [bne_iff_ne]; exact hp
            have hpb2 : (printP (bodyM acc) true == s) = false := by rw [beq_eq_false_iff_ne]; exact hp
            generalize printP (bodyM acc) true = t at *
            clear hc hp
            go_wp2_with fail
            refine HPr.out.mono ?_
            rintro e w3 ⟨rfl, hb3⟩
            have HB3 := Lib.hid (HB.out.trans (hb3.mono hsz))
            clear hb3
            go_wp2_with fail
            go_ret2
            exact ⟨none, _, rfl, HR.out, Matchers.nil _, HB3.out⟩

end Go.Proofs.Ytamdkmcdleilpaa
