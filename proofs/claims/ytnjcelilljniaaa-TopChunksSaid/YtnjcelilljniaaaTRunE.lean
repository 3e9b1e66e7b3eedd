/-
  runs.Encode of rows of even times.
-/
import Derived.Test.YtnjcelilljniaaaTChunk
import Derived.Test.YtnjcelilljniaaaTRunR
import Derived.Deep.DrawnRows
namespace Go.Proofs.Ytnjcelilljniaaa
open Go.RowKit Go.Shelf

attribute [local go_sem] Oper.semAt_some

set_option maxRecDepth 100000 in
theorem behind_yes (a b c d x y : Int) (w : World) (h : x < a) :
    Calls Try.prog 30 #[.agg #[.int .i64 a, .int .i64 b, .int .i64 c], .agg #[.int .i64 x, .int .i64 d, .int .i64 y]] w fun e w' => e = .returned (.bool true) ∧ Below w.heap.size w w' := by
  go_enter Try.func30, Try.ntmps30
  go_wp2_with fail
  go_ret
  exact ⟨rfl, ((Below.refl _ _).alloc (Nat.le_refl _) _).alloc (by simp) _⟩

theorem keepR {w' w'' : World} {B g : Nat} {a b c x y z : Nat} {p q r s t u : Value} (h : w'.cell? ⟨B, a, none⟩ = some p ∧ w'.cell? ⟨B, b, none⟩ = some q ∧ w'.cell? ⟨B, c, none⟩ = some r ∧ w'.cell? ⟨g, x, none⟩ = some s ∧ w'.cell? ⟨g, y, none⟩ = some t ∧ w'.cell? ⟨g, z, none⟩ = some u) (hb : Below w'.heap.size w' w'') :
    w''.cell? ⟨B, a, none⟩ = some p ∧ w''.cell? ⟨B, b, none⟩ = some q ∧ w''.cell? ⟨B, c, none⟩ = some r ∧ w''.cell? ⟨g, x, none⟩ = some s ∧ w''.cell? ⟨g, y, none⟩ = some t ∧ w''.cell? ⟨g, z, none⟩ = some u := by
  have k : ∀ p v, w'.cell? p = some v → w''.cell? p = some v := fun p v hv => (hb.cell (World.block_lt_of_cell? w' _ hv)).trans hv
  exact ⟨k _ _ h.1, k _ _ h.2.1, k _ _ h.2.2.1, k _ _ h.2.2.2.1, k _ _ h.2.2.2.2.1, k _ _ h.2.2.2.2.2⟩

theorem drE2 {w w2 : World} (h : Below w.drew.heap.size w.drew w2) : Below w.heap.size w w2 := (Below.refl _ _).drew.trans h
/-- What a round of the blocks' loop knows. -/
def RunI (h n st : Nat) (v : Int) (B : Nat) (s : Value) (w w3 : World) (pre : List (Fin (nBlk n))) (W : World) : Prop :=
  (TwoB h (headT n st v (pre.map (·.1))) (bodyT n st v (pre.map (·.1))) W ∧ CSeen W B s) ∧ (Below w.heap.size w W ∧ w3.heap.size ≤ W.heap.size)
theorem CSeen.own {X Y : World} {B : Nat} {s : Value} {row : Option Nat} (h : CSeen X B s) (hg : X.grownBy Y row) (hr : ∀ r, row = some r → ∃ o : Obj, X.heap[r]? = some o ∧ o.isCells = false) : CSeen Y B s :=
  ⟨(hg.block B (lt_of_heap h.1) (fun e => by obtain ⟨o, ho, hc⟩ := hr _ e.symm; rw [h.1] at ho; cases ho; cases hc)).trans h.1, (hg.block (B + 1) (lt_of_heap h.2) (fun e => by obtain ⟨o, ho, hc⟩ := hr _ e.symm; rw [h.2] at ho; cases ho; cases hc)).trans h.2⟩
theorem runI_own (h n st : Nat) (v : Int) (B : Nat) (s : Value) (w w3 : World) (hw : w.heap.size ≤ w3.heap.size) : OwnFrom w3.heap.size (RunI h n st v B s w w3) :=
  OwnFrom.and (Own.from (fun pre X Y row hs hg hr => ⟨hs.1.own hg hr, hs.2.own hg hr⟩) _) (OwnFrom.and (ownFrom_below (Nat.le_refl _) hw) (fun _ X Y row hs hg _ => Nat.le_trans hs hg.size))

set_option maxRecDepth 100000 in
set_option maxHeartbeats 4000000 in
theorem runE_any (u : Value) (n st : Nat) (v : Int) (w : World) (hu : RowsV w u (rowsL n st v)) (hn : n ≤ 90) (hst1 : 1 ≤ st) (hst : st ≤ 300) (hv0 : -9223372036854775808 ≤ v) (hv1 : v ≤ 9223372036854775807) :
    Calls Try.prog 18 #[u] w fun e w' => e = .returned (.tuple #[.string (bs (runL n st v)), .int .i64 0]) ∧ Below w.heap.size w w' := by
  have HU := Lib.hid hu
  obtain ⟨a, cap, rfl, hc, hm⟩ := hu.shape
  clear hu
  refine (callsIn_wide (n := 5)).1 ?_
  refine callsIn_of_wp_marks Try.func18 rfl trivial ?_ rfl
  simp only [Try.ntmps18, List.size_toArray, List.length_cons, List.length_nil, Nat.reduceAdd, Nat.reduceSub, Array.replicate_succ, Array.replicate_zero, List.push_toArray, List.append_toArray, List.nil_append, List.cons_append]
  refine (wpIn_wide (n := 5)).2 ?_
  go_wp2_with fail
  go_loopw [16] (fun x wr => ∃ k : Nat, x = .int .i64 k ∧ k ≤ n ∧ Below w.heap.size w wr) (fun x wr => n - (intOf x).toNat)
  case atStart => exact ⟨0, rfl, Nat.zero_le _, Below.refl _ _⟩
  case round =>
    obtain ⟨k, rfl, hk, hbl⟩ := hrel
    have HB := Lib.hid hbl
    have HU1 := Lib.hid (HU.out.below hbl)
    clear hbl
    by_cases hlt : k < n
    · obtain ⟨g, off, rfl, hgl, c0, c1, c2⟩ := HU1.out.at_ (i := k) (by rw [rowsL_len]; exact hlt)
      rw [rowsL_get hlt] at c0 c1 c2
      simp only at c0 c1 c2
      have hkb : k * st ≤ 90 * 300 := Nat.mul_le_mul (by omega) hst
      by_cases hk0 : k = 0
      · subst hk0
        simp only [Nat.zero_mul, Nat.add_zero, Int.natCast_zero] at c0 c1 c2
        simp only [Int.natCast_zero]
        go_wp2_with fail
        go_quiet (fail)
        go_wp2_with fail
        go_roundw
        case rel => exact ⟨1, rfl, by omega, belowN (HB.out.alloc HB.out.size _) _⟩
        case measure => simp [intOf]; omega
      · obtain ⟨b', off', hb', -, d0, d1, d2⟩ := HU1.out.at_ (i := k - 1) (by rw [rowsL_len]; omega)
        simp only [Option.some.injEq, Addr.mk.injEq, and_true] at hb'
        obtain ⟨rfl, rfl⟩ := hb'
        rw [rowsL_get (by omega)] at d0 d1 d2
        simp only at d0 d1 d2
        have hmul : k * st = (k - 1) * st + st := by
          conv => lhs; rw [show k = (k - 1) + 1 by omega]
          exact Nat.succ_mul _ _
        obtain ⟨j, hj⟩ : ∃ j, j = k - 1 := ⟨_, rfl⟩
        rw [← hj] at d0 d1 d2 hmul
        have hjk : j < k := by omega
        have hz1 : (0 : Int) ≤ (k : Int) - 1 := by omega
        have hz2 : (k : Int) - 1 < (n : Int) := by omega
        have hz3 : (1 : Int) ≤ (k : Int) := by omega
        have hz4 : (0 : Int) < (k : Int) := by omega
        have hww : IntKind.i64.wrap ((k : Int) - 1) = (k : Int) - 1 := IntWalk.i64_in _ (by omega)
        have htn : ((k : Int) - 1).toNat = j := by omega
        clear hj
        generalize j * st = x0 at *
        generalize k * st = x1 at *
        have hlx : (x0 : Int) < x1 := by omega
        have HBh := Lib.hid (fun w => behind_yes x1 7 v 7 x0 v w hlx)
        have hdk : decide ((0 : Int) < (k : Int)) = true := by simp; omega
        have hdk2 : decide (0 < k) = true := by simp; omega
        have hq2 : decide ((1099511627776 : Int) ≤ (x1 : Int)) = false := by simp; omega
        have hq3 : decide (1099511627776 ≤ x1) = false := by simp; omega
        clear hmul hlx
        go_wp2_with fail
        go_region_held3 (fun w' => w'.cell? ⟨wr.heap.size, 0, none⟩ = some (.int .i64 x1) ∧ w'.cell? ⟨wr.heap.size, 1, none⟩ = some (.int .i64 7) ∧ w'.cell? ⟨wr.heap.size, 2, none⟩ = some (.int .i64 v) ∧
            w'.cell? ⟨g, off + j * 3, none⟩ = some (.int .i64 x0) ∧ w'.cell? ⟨g, off + j * 3 + 1, none⟩ = some (.int .i64 7) ∧ w'.cell? ⟨g, off + j * 3 + 2, none⟩ = some (.int .i64 v))
          (first | exact keepR (by assumption) hb1 | go_keep)
          (first | (go_at_call 30; refine (HBh.out _).mono ?_; rintro e w2 ⟨rfl, hb1⟩))
        have HB2 := Lib.hid ((HB.out.alloc HB.out.size (.cells #[.int .i64 x1, .int .i64 7, .int .i64 v] 27)).trans ((drE2 hb1).mono (by have := HB.out.size; simp; omega)))
        clear hb1
        go_wp2_with fail
        go_roundw
        case rel => exact ⟨k + 1, by go_num, by omega, HB2.out⟩
        case measure => simp [intOf]; omega
    · have hke : k = n := by omega
      subst hke
      clear hlt hk
      have HT0 := Lib.hid (TwoB.start wr)
      have HB0 := Lib.hid (HB.out.trans (show Below w.heap.size wr ((wr.alloc (.cells #[.pointer none, .slice none 0 0] 65)).alloc (.cells #[.pointer none, .slice none 0 0] 65)) from ((Below.refl _ _).alloc HB.out.size _).alloc (by have := HB.out.size; simp; omega) _))
      have HW := Lib.hid HB.out.size
      clear HB HU1
      have hw1 : IntKind.u64.wrap (k : Int) = k := by rw [IntKind.wrap_u64]; omega
      have hu := uintL_len10 (n := k) (by omega)
      have hune := uintL_ne k
      go_wp2_with fail
      refine (uint_any k _ (by omega)).mono ?_
      rintro e w1 ⟨rfl, b1⟩
      have HT1 := Lib.hid (HT0.out.below b1)
      have HB1 := Lib.hid (HB0.out.trans (b1.mono HB0.out.size))
      clear b1 HT0 HB0
      go_wp2_with fail
      refine (write1K_any (uintL k) HT1.out (by simp; omega) hune).mono ?_
      rintro e w2 ⟨rfl, t2, b2⟩
      have HT2 := Lib.hid t2
      have HB2 := Lib.hid (HB1.out.trans (b2.below.mono HW.out))
      clear t2 b2 HT1 HB1 hune hu
      go_wp2_with fail
      refine (chunk_any a k cap _).mono ?_
      rintro e w3 ⟨rfl, h3⟩
      have H3 := Lib.hid h3
      have hb3 : Below w2.heap.size w2 w3 := by rw [h3]; exact ((Below.refl _ _).alloc (Nat.le_refl _) _).alloc (by simp) _
      have HCS := Lib.hid (show CSeen w3 w2.heap.size (.slice a k cap) from ⟨by rw [h3]; exact (Below.heap_alloc _ _ _ (by simp)).trans (heap_alloc_new _ _), by
        rw [h3]; have := heap_alloc_new (w2.alloc (.cells #[.slice a k cap] 23)) (.cells #[.int .i64 16] 3); rwa [World.size_alloc] at this⟩)
      have HT3 := Lib.hid (HT2.out.below hb3)
      have HB3 := Lib.hid (HB2.out.trans (hb3.mono HB2.out.size))
      have hsz3 : w2.heap.size + 2 = w3.heap.size := by rw [h3]; simp
      have hhl := HT2.out.lt
      clear hb3 h3 HT2 HB2
      go_wp2_with fail
      have HA := Lib.hid (show k = 0 ∨ ∃ b off, a = some ⟨b, off, none⟩ by
        rcases Nat.eq_zero_or_pos k with e | e
        · exact .inl e
        · obtain ⟨b, off, e, _⟩ := HU.out.at_ (i := 0) (by rw [rowsL_len]; exact e)
          exact .inr ⟨b, off, e⟩)
      refine (wpIn_wide (n := 5)).1 ?_
      refine wpIn_rangeFunc_ownG (F := Fence.wide) rfl (by omega) (gf := 53) (lb := #[.pointer (some ⟨w2.heap.size, 0, none⟩), .pointer (some ⟨w2.heap.size + 1, 0, none⟩)]) rfl trivial (enters_of Try.func53 (by kernel_rfl) rfl)
        (chunk_stops 4 w2.heap.size k cap a HA.out (by omega) (by omega) hc hm w3 HCS.out) (fun h k => KeepB.trans h k) (KeepB.putObj (by omega)) (Below.refl _ _) (fun _ => rfl)
        (RunI wr.heap.size k st v w2.heap.size (.slice a k cap) w w3)
        (fun _ _ _ => False)
        (runI_own _ _ _ _ _ _ _ _ HB3.out.size)
        (fun _ _ _ _ _ hs _ _ => hs)
        ⟨⟨by rw [List.map_nil, headT_nil, bodyT_nil]; exact HT3.out, HCS.out⟩, HB3.out, Nat.le_refl _⟩
        ?a₁
        ?assign ?body ?done ?stop
      case assign =>
        intro l x W K hK
        gi_wp2
        exact hK
      case stop =>
        rintro D c pre W _ _ h _
        exact h.elim
      case body =>
        rintro l pre x W ⟨⟨ht, hcs⟩, hB, hN⟩ hlt
        have HCS2 := Lib.hid hcs
        have HO := Lib.hid (fun W' (h : TKeep wr.heap.size W W') => ht.others h)
        have HKB := Lib.hid (fun W' (h : TKeep wr.heap.size W W') => show KeepB w2.heap.size W W' from ⟨h.below.size, (h.cells hcs.1 (by decide) (by omega) (by omega)).trans hcs.1.symm, (h.cells hcs.2 (by decide) (by omega) (by omega)).trans hcs.2.symm⟩)
        clear hcs
        generalize wr.heap.size = h at *
        obtain ⟨x, hx⟩ := x
        have HT := Lib.hid ht
        have HB := Lib.hid hB
        have HN := Lib.hid hN
        have hx16 := nBlk_lt.1 hx
        obtain ⟨b, off, rfl⟩ : ∃ b off, a = some ⟨b, off, none⟩ := by
          rcases HA.out with e | e
          · omega
          · exact e
        have HPo := Lib.hid (chN_pos hx)
        have HIn := Lib.hid (chN_in hx)
        have HLe := chN_le k x
        have HCh := Lib.hid (show chV (some ⟨b, off, none⟩) k x = .slice (some ⟨b, off + 16 * x * 3, none⟩) (chN k x) (chN k x) by simp [chV, Addr.add_lit])
        have HCell := Lib.hid (fun (W' : World) (hW : Below w.heap.size w W') (i : Nat) (hi : i < chN k x) => show W'.cell? ⟨b, off + 16 * x * 3 + i * 3, none⟩ = some (.int .i64 ((16 * x * st + i * st : Nat) : Int)) ∧ W'.cell? ⟨b, off + 16 * x * 3 + i * 3 + 1, none⟩ = some (.int .i64 7) ∧ W'.cell? ⟨b, off + 16 * x * 3 + i * 3 + 2, none⟩ = some (.int .i64 v) from by
          have hin := HIn.out
          obtain ⟨b', off', hb', -, c0, c1, c2⟩ := (HU.out.below hW).at_ (i := 16 * x + i) (by rw [rowsL_len]; omega)
          simp only [Option.some.injEq, Addr.mk.injEq, and_true] at hb'
          obtain ⟨rfl, rfl⟩ := hb'
          rw [rowsL_get (by omega)] at c0 c1 c2
          rw [show off + 16 * x * 3 + i * 3 = off + (16 * x + i) * 3 by omega, ← row_time]
          exact ⟨c0, c1, c2⟩)
        have HX := Lib.hid (show 16 * x * st ≤ 90 * 300 from Nat.mul_le_mul (by omega) hst)
        obtain ⟨X, hX⟩ : ∃ X, X = 16 * x * st := ⟨_, rfl⟩
        rw [← hX] at HCell HX
        obtain ⟨o2, ho2⟩ : ∃ o2, o2 = off + 16 * x * 3 := ⟨_, rfl⟩
        rw [← ho2] at HCell HCh
        obtain ⟨m, hm'⟩ : ∃ m, m = chN k x := ⟨_, rfl⟩
        rw [← hm'] at HCell HCh HLe HPo HIn
        have HXd := Lib.hid hX
        have HMd := Lib.hid hm'
        have HSn := Lib.hid (show headT k st v ((pre ++ [(⟨x, hx⟩ : Fin (nBlk k))]).map (·.1)) = headT k st v (pre.map (·.1)) ++ headB k st v x ∧ bodyT k st v ((pre ++ [(⟨x, hx⟩ : Fin (nBlk k))]).map (·.1)) = bodyT k st v (pre.map (·.1)) ++ blkL m st v by
          rw [List.map_append, hm']; exact ⟨headT_snoc .., bodyT_snoc ..⟩)
        have hp6 : pre.length ≤ 6 := by have := nBlk_le hn; omega
        have hHl : (headT k st v (pre.map (·.1))).length ≤ 200 := by
          have := headT_len (v := v) hn hst hv0 hv1 (pre.map (·.1)) (by intro j hj; obtain ⟨i, _, rfl⟩ := List.mem_map.1 hj; exact i.2)
          rw [List.length_map] at this; omega
        have hBl : (bodyT k st v (pre.map (·.1))).length ≤ 3000 := by
          have := bodyT_len (n := k) (v := v) hst hv0 hv1 (pre.map (·.1))
          rw [List.length_map] at this; omega
        clear ht hB hN hX ho2 hm' HT3 hp6
        have HFin := Lib.hid (fun W' (h1 : TwoB h (headT k st v (pre.map (·.1)) ++ headB k st v x) (bodyT k st v (pre.map (·.1)) ++ blkL m st v) W') (h2 : TKeep h W W') => show RunI h k st v w2.heap.size (.slice (some ⟨b, off, none⟩) k cap) w w3 (pre ++ [(⟨x, hx⟩ : Fin (nBlk k))]) W' from
          ⟨⟨by rw [HSn.out.1, HSn.out.2]; exact h1, HCS2.out.keep (HKB.out _ h2)⟩, HB.out.trans (h2.below.mono HW.out), Nat.le_trans HN.out h2.below.size⟩)
        clear HSn
        generalize headT k st v (pre.map (·.1)) = HH at *
        generalize bodyT k st v (pre.map (·.1)) = BB at *
        simp only [HCh.out]
        gi_wp2
        refine ⟨trivial, (CallsIn.inRound l (callsIn_wide.2 (len2_any HT.out))).mono ?_⟩
        rintro e w4 ⟨rfl, rfl⟩
        obtain ⟨c0, -, -⟩ := HCell.out W HB.out 0 HPo.out
        simp only [Nat.zero_mul, Nat.add_zero] at c0
        have hpo := HPo.out
        have hXb := HX.out
        gi_wp2
        clear c0
        gi_loopw [73, 11] (fun i t wr => ∃ q : Nat, q ≤ m ∧ i = .int .i64 q ∧ t = .int .i64 ((X + (q - 1) * st : Nat) : Int) ∧ TwoB h HH (BB ++ blkL q st v) wr ∧ TKeep h W wr)
          (fun i t wr => m - (intOf i).toNat)
        case atStart =>
          have e0 : blkL 0 st v = [] := rfl
          exact ⟨0, Nat.zero_le _, rfl, by simp, by rw [e0, List.append_nil]; exact HT.out, TKeep.refl _ _⟩
        case round =>
          obtain ⟨q, hq, rfl, rfl, ht, hk⟩ := hrel
          have HTi := Lib.hid ht
          have HKi := Lib.hid hk
          have HWi := Lib.hid (HB.out.trans (hk.below.mono HW.out))
          clear ht hk
          by_cases hlq : q < m
          · obtain ⟨c0, c1, c2⟩ := HCell.out wr HWi.out q hlq
            have hqs : q * st ≤ 16 * 300 := Nat.mul_le_mul (by omega) hst
            have hqs1 : (q - 1) * st ≤ q * st := Nat.mul_le_mul_right st (by omega)
            have HD := Lib.hid (show (X + q * st) = (X + (q - 1) * st) + stp st q by
              unfold stp
              by_cases e : q = 0
              · subst e; simp
              · rw [if_neg e]
                have : q * st = (q - 1) * st + st := by
                  conv => lhs; rw [show q = (q - 1) + 1 by omega]
                  exact Nat.succ_mul _ _
                omega)
            have HBk := Lib.hid (blkL_succ q st v)
            have hbl := blkL_len (v := v) hst hv0 hv1 q
            have hrl := rowB_len (v := v) (stp st q) (stp_le hst q) hv0 hv1
            have hdl := stp_le hst q
            have HRB := Lib.hid (show rowB (stp st q) v = uintL (stp st q) ++ uintL 7 ++ uintL (foldN v) from rfl)
            have hA : X + q * st ≤ 40000 := by omega
            have hA' : X + q * st = X + (q + 1 - 1) * st := by rw [Nat.add_sub_cancel]
            have HA' := Lib.hid hA'
            clear hA'
            generalize X + (q - 1) * st = C at *
            generalize X + q * st = A at *
            generalize stp st q = d at *
            have HHl := HTi.out.lt
            have HR4 := Lib.hid (show Rel19 h wr.heap.size A v HH (BB ++ blkL q st v) W ((wr.alloc (.cells #[.int .i64 A, .int .i64 7, .int .i64 v] 27)).drew) from
              ⟨heap_alloc_new _ _, HTi.out.below (((Below.refl wr.heap.size wr).alloc (Nat.le_refl _) _).drew), HKi.out.trans (TKeep.own (((Below.refl wr.heap.size wr).alloc (Nat.le_refl _) _).drew) (by omega))⟩)
            have hlen8 : (BB ++ blkL q st v).length ≤ 5000 := by rw [List.length_append]; omega
            have Hlen8 := Lib.hid hlen8
            clear hrl hlen8 hqs hqs1 hbl
            gi_wp2
            refine region19 ?r19 (h := h) (B := wr.heap.size) (A := A) (C := C) (d := d) (v := v) (HH := HH) (BB := BB ++ blkL q st v) (W0 := W) (by rfl) (by rfl) (by rfl) (by rfl) (by omega) (by omega) HD.out hdl hA hv0 hv1 Hlen8.out HR4.out ?_
            case r19 =>
              refine ⟨rfl, ⟨_, rfl, rfl, rfl, rfl⟩, ⟨_, rfl, rfl, rfl, rfl⟩, ⟨_, rfl, rfl, rfl, rfl⟩, ⟨_, rfl, rfl, rfl, rfl⟩, ⟨_, rfl, rfl, rfl, rfl⟩, ⟨_, rfl, rfl, rfl, rfl⟩, ⟨_, rfl, rfl, rfl, rfl⟩, ⟨_, rfl, rfl, rfl, rfl⟩, ⟨_, rfl, rfl, rfl, rfl⟩, ⟨_, rfl, rfl, rfl, rfl⟩, ⟨_, rfl, rfl, rfl, rfl⟩, ⟨_, rfl, rfl, rfl, rfl⟩, ⟨_, rfl, rfl, rfl, rfl⟩, ⟨_, rfl, rfl, rfl, rfl⟩, ⟨_, rfl, rfl, rfl, rfl⟩, ⟨_, rfl, rfl, rfl, rfl⟩, ?_, by kernel_rfl⟩
              · intro i l hi j hj
                have hh := (ready_iff hi).2.2
                have hi1 := (ready_iff hi).1
                have hcases : i = 0 ∨ i = 1 ∨ i = 2 ∨ i = 3 ∨ i = 4 ∨ i = 5 ∨ i = 6 ∨ i = 7 ∨ i = 8 ∨ i = 9 ∨ i = 10 ∨ i = 11 ∨ i = 12 ∨ i = 13 ∨ i = 14 ∨ i = 15 := by simp at hi1; omega
                rcases hcases with rfl | rfl | rfl | rfl | rfl | rfl | rfl | rfl | rfl | rfl | rfl | rfl | rfl | rfl | rfl | rfl <;> simp [dep19] at hj <;> simp [Region.binds] at hh <;> (try rcases hj with rfl | rfl) <;> (try subst hj) <;> simp [hh]
            intro w5 hr5
            rw [setAll19]
            have HR5 := Lib.hid hr5
            have c5 : w5.cell? ⟨wr.heap.size, 0, none⟩ = some (.int .i64 A) := by rw [cell_of_row w5 _ _ _ _ _ hr5.1]; rfl
            clear hr5
            go_frame
            gi_wp2
            refine ⟨⟨q + 1, by omega, by go_num, by rw [← HA'.out], by rw [HBk.out, HRB.out, ← List.append_assoc]; exact HR5.out.2.1, HR5.out.2.2⟩, by simp [intOf]; omega⟩
          · have hqm : q = m := by omega
            subst hqm
            obtain ⟨Y, hY⟩ : ∃ Y, Y = (q - 1) * st := ⟨_, rfl⟩
            have hYb : Y ≤ 16 * 300 := by rw [hY]; exact Nat.mul_le_mul (by omega) hst
            obtain ⟨Z, hZ⟩ : ∃ Z, Z = (blkL q st v).length := ⟨_, rfl⟩
            have hZb : Z ≤ 480 := by have := blkL_len (v := v) hst hv0 hv1 q; omega
            have HH1 := Lib.hid (show headB k st v x = uintL X ++ (uintL Y ++ uintL Z) by unfold headB; rw [← HMd.out, ← HXd.out, hY, hZ, List.append_assoc])
            rw [← hY]
            have hBZ : (BB ++ blkL q st v).length = BB.length + Z := by rw [List.length_append, hZ]
            have HBZ := Lib.hid hBZ
            have hs1 : ((X + Y : Nat) : Int) - (X : Int) = (Y : Int) := by omega
            have hs6 : (X : Int) + (Y : Int) - (X : Int) = (Y : Int) := by omega
            have hs7 : (BB.length : Int) + (Z : Int) - (BB.length : Int) = (Z : Int) := by omega
            have hs2 : IntKind.u64.wrap (X : Int) = X := by rw [IntKind.wrap_u64]; omega
            have hs3 : IntKind.u64.wrap (Y : Int) = Y := by rw [IntKind.wrap_u64]; omega
            have hs4 : IntKind.u64.wrap (Z : Int) = Z := by rw [IntKind.wrap_u64]; omega
            have hs5 : ((BB.length + Z : Nat) : Int) - (BB.length : Int) = (Z : Int) := by omega
            have hu1 := uintL_len10 (n := X) (by omega)
            have hu2 := uintL_len10 (n := Y) (by omega)
            have hu3 := uintL_len10 (n := Z) (by omega)
            have hg1 : ¬ ((uintL X).length + (uintL Y).length > 9223372036854775807) := by omega
            have hg2 : ¬ ((uintL X ++ uintL Y).length + (uintL Z).length > 9223372036854775807) := by rw [List.length_append]; omega
            have hg3 : ¬ ((uintL X).length + (uintL Y).length + (uintL Z).length > 9223372036854775807) := by omega
            have Hne := Lib.hid (show uintL X ++ (uintL Y ++ uintL Z) ≠ [] from fun e => uintL_ne X (List.append_eq_nil_iff.1 e).1)
            have Hln := Lib.hid (show HH.length + (uintL X ++ (uintL Y ++ uintL Z)).length ≤ 1000000000000 by simp only [List.length_append]; omega)
            have hhw := HTi.out.lt
            have HUX := Lib.hid (fun w' => uint_any X w' (by omega))
            have HUY := Lib.hid (fun w' => uint_any Y w' (by omega))
            have HUZ := Lib.hid (fun w' => uint_any Z w' (by omega))
            clear hY hZ hBZ hu1 hu2 hu3 hlq
            generalize uintL X = UX at *
            generalize uintL Y = UY at *
            generalize uintL Z = UZ at *
            generalize blkL q st v = BL at *
            gi_wp2
            refine ⟨trivial, ?_⟩
            with_reducible refine (CallsIn.inRound l (callsIn_wide.2 (HUX.out _))).mono ?_
            rintro e w5 ⟨rfl, hb5⟩
            have HT5 := Lib.hid (HTi.out.below hb5)
            have HK5 := Lib.hid (HKi.out.trans (TKeep.own hb5 (by omega)))
            clear hb5
            gi_wp2
            refine ⟨trivial, ?_⟩
            with_reducible refine (CallsIn.inRound l (callsIn_wide.2 (HUY.out _))).mono ?_
            rintro e w6 ⟨rfl, hb6⟩
            have HT6 := Lib.hid (HT5.out.below hb6)
            have HK6 := Lib.hid (HK5.out.trans (TKeep.own hb6 (by have := HT5.out.lt; omega)))
            clear hb6
            gi_wp2
            refine ⟨trivial, ?_⟩
            with_reducible refine (CallsIn.inRound l (callsIn_wide.2 (len2_any HT6.out))).mono ?_
            rintro e w7 ⟨rfl, rfl⟩
            rw [HBZ.out]
            gi_wp2
            refine ⟨trivial, ?_⟩
            with_reducible refine (CallsIn.inRound l (callsIn_wide.2 (HUZ.out _))).mono ?_
            rintro e w7 ⟨rfl, hb7⟩
            have HT7 := Lib.hid (HT6.out.below hb7)
            have HK7 := Lib.hid (HK6.out.trans (TKeep.own hb7 (by have := HT6.out.lt; omega)))
            clear hb7
            gi_wp2
            refine ⟨trivial, ?_⟩
            with_reducible refine (CallsIn.inRound l (callsIn_wide.2 (write1K_any (UX ++ (UY ++ UZ)) HT7.out Hln.out Hne.out))).mono ?_
            rintro e w8 ⟨rfl, t8, k8⟩
            have HT8 := Lib.hid t8
            have HK8 := Lib.hid (HK7.out.trans k8)
            clear t8 k8
            gi_wp2
            have HF := HFin.out w8 (by rw [HH1.out]; exact HT8.out) HK8.out
            exact ⟨(HO.out _ HK8.out).from _, HKB.out _ HK8.out, HF⟩
      case done =>
        rintro D ys W hD rfl ⟨⟨ht, hcs⟩, hB, hN⟩ hK
        rw [blks_val] at ht
        have hDn : D ≠ wr.heap.size ∧ D ≠ wr.heap.size + 1 := by omega
        have HT := Lib.hid ht
        have HB := Lib.hid hB
        have HKd := Lib.hid hK
        have hwD : w.heap.size ≤ D := by have := HB3.out.size; omega
        have HRl := Lib.hid (show runL k st v = headT k st v (List.range (nBlk k)) ++ bodyT k st v (List.range (nBlk k)) from rfl)
        have hg := runL_len (v := v) hn hst hv0 hv1
        rw [HRl.out, List.length_append] at hg
        generalize headT k st v (List.range (nBlk k)) = HH at *
        generalize bodyT k st v (List.range (nBlk k)) = BB at *
        have hg1 : ¬ (HH.length + BB.length > 9223372036854775807) := by omega
        clear ht hB hK hg hcs
        go_wp2_with fail
        refine (string1K_any HT.out).mono ?_
        rintro e w8 ⟨rfl, k8, v2, q2, d2⟩
        have HB8 := Lib.hid (HB.out.trans (k8.below.mono HW.out))
        have HK8 := Lib.hid (k8.deferred HKd.out rfl hDn.1 hDn.2)
        have HS2 := Lib.hid (string2K_any q2 d2)
        clear k8 q2 d2
        go_wp2_with fail
        refine HS2.out.mono ?_
        rintro e w9 ⟨rfl, k9⟩
        have HB9 := Lib.hid (HB8.out.trans (k9.below.mono HW.out))
        have HK9 := k9.deferred HK8.out rfl hDn.1 hDn.2
        clear k9
        go_wp2_with fail
        refine ⟨by simp, .inl ⟨_, _, rfl, run_takeDeferred HK9, ?_⟩⟩
        refine ⟨_, results_tmp2 rfl _ _ _, by rw [HRl.out]; simp, HB9.out.trans (belowK_b (w := w) (Nat.le_refl _) w9 D _ _ hwD HK9 rfl rfl)⟩

end Go.Proofs.Ytnjcelilljniaaa
