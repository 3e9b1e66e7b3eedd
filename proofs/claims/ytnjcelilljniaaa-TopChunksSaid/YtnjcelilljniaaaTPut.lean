/-
  series.Put, series.Split of rows of one series.
-/
import Derived.Test.YtnjcelilljniaaaTPut1
namespace Go.Proofs.Ytnjcelilljniaaa
open Go.RowKit Go.Maps
attribute [local go_sem ↓] Go.wp_at_zero Go.wp_at_succ

theorem mapGet_same {P : Program} {t b : Nat} {w w' : World} {key v : Value} {D : DataW Value} {k e n : Nat} {kl : Lit} {z : Value} (h : OMap P k w b n D) (K : Keyed P k) (ht : P.underlying t = some (.map k e)) (hz : ∀ w, (zeroValue e).run P w = .ok z w) (hkey : keyOf P k key = some kl)
    (hd : D.atKey kl (.held z) = .held v) (hb : Below w.heap.size w w') : mapGet P t b key w' = v :=
  mapGet_eq (look_raw (h.below hb) K ht (hz w') hkey hd)

set_option maxRecDepth 100000 in
set_option maxHeartbeats 4000000 in
theorem seriesPut_any (u : Value) (n st : Nat) (v : Int) (w : World) (hu : RowsV w u (rowsL n st v)) (hn : n ≤ 90) (hst1 : 1 ≤ st) (hst : st ≤ 300) :
    Calls Try.prog 29 #[.slice none 0 0, u] w fun e w' => ∃ r, e = .returned r ∧ OneSer w' r n st v ∧ Below w.heap.size w w' := by
  have HU := Lib.hid hu
  obtain ⟨a, cap, rfl, hc, hm⟩ := hu.shape
  clear hu
  have hmm := @run_makeMap Try.prog
  obtain ⟨i0, hi, hz0, hz1, hz2⟩ := info_parts infoSmp
  have HG0 := Lib.hid (show Grp w.heap.size 0 st v (w.alloc (.map #[] 0)) from
    ⟨.slice none 0 0, .map [], World.ownsMap_made _ _ _ _, rfl, D7_put0, OwnR.nil _ _, fun _ => rfl, fun e => absurd rfl e⟩)
  have HB0 := Lib.hid (show Below w.heap.size w (w.alloc (.map #[] 0)) from (Below.refl _ _).alloc (Nat.le_refl _) _)
  go_enter Try.func29, Try.ntmps29
  go_wp2_with fail
  clear hmm
  go_loopw [20] (fun x wr => ∃ k : Nat, x = .int .i64 k ∧ k ≤ n ∧ Grp w.heap.size k st v wr ∧ Below w.heap.size w wr ∧ w.heap.size < wr.heap.size) (fun x wr => n - (intOf x).toNat)
  case atStart => exact ⟨0, rfl, Nat.zero_le _, HG0.out, HB0.out, by simp⟩
  case round =>
    clear HG0 HB0
    obtain ⟨k, rfl, hk, hgp, hbl, hsz⟩ := hrel
    have HB := Lib.hid hbl
    have HU1 := Lib.hid (HU.out.below hbl)
    clear hbl
    obtain ⟨s, D, hm1, hat, hput, hs, hD0, hD1⟩ := hgp
    by_cases hlt : k < n
    · obtain ⟨bx, off, rfl, hbs, c0, c1, c2⟩ := HU1.out.at_ (i := k) (by rw [rowsL_len]; exact hlt)
      rw [rowsL_get hlt] at c0 c1 c2
      simp only at c0 c1 c2
      have hkb : k * st ≤ 90 * 300 := Nat.mul_le_mul (by omega) hst
      have HSt := Lib.hid (fun w1 g cap => grp_step (w1 := w1) (g := g) (cap := cap) (n := n) hm1 hput hs hk hn)
      generalize k * st = x0 at *
      have HM := Lib.hid hm1
      have HS := Lib.hid (fun W (hW : Below wr.heap.size wr W) => show W.ownsRow (w.heap.size + 1) 25 2 s k ((smpL k st v).flatMap encS) from by have h := hs.below hW; unfold OwnR at h; rw [smpL_len] at h; exact h)
      have hgB := fun o => mapGet_same (key := .int .i64 7) (w' := (wr.alloc o).drew) hm1 keyedInt Try.underlying95 zeroSl key7 hat (((Below.refl _ _).alloc (Nat.le_refl _) _).drew)
      have hgC := fun o o' => mapGet_same (key := .int .i64 7) (w' := ((wr.alloc o).alloc o').drew) hm1 keyedInt Try.underlying95 zeroSl key7 hat ((((Below.refl _ _).alloc (Nat.le_refl _) _).alloc (by simp) _).drew)
      have hgD := fun o o' => mapGet_same (key := .int .i64 7) (w' := ((wr.alloc o).drew.alloc o')) hm1 keyedInt Try.underlying95 zeroSl key7 hat ((((Below.refl _ _).alloc (Nat.le_refl _) _).drew).alloc (by simp) _)
      have HRS := Lib.hid (fun (W : World) (hW : W.heap = (wr.alloc (.cells #[.int .i64 x0, .int .i64 7, .int .i64 v] 27)).heap) => show RS wr.heap.size w.heap.size x0 v W from
        (RS.mk (by rw [World.cell?_alloc_at _ _ _ _ rfl]; rfl) (by rw [World.cell?_alloc_at _ _ _ _ rfl]; rfl) (by rw [World.cell?_alloc_at _ _ _ _ rfl]; rfl) (hm1.keysOk.kept (World.grownBy_alloc wr _ none) (by simp))).heap hW)
      have hx1 := Lib.hid (show some wr.heap.size ≠ s.ownBlock from fun e => by have := (World.ownsRow.lt hs _ e.symm).2; omega)
      have hx2 := Lib.hid (show some w.heap.size ≠ s.ownBlock from fun e => by have := (World.ownsRow.lt hs _ e.symm).1; omega)
      have HX1 := Lib.hid (fun j (hj : s.ownBlock = some j) => show w.heap.size ≤ j by have := (World.ownsRow.lt hs _ hj).1; omega)
      have hx3 := Lib.hid (show wr.heap.size ≠ w.heap.size by omega)
      clear hm1 hput hs hat hD0 hD1
      go_wp2_with fail
      go_region_held3 (fun w' => w'.cell? ⟨wr.heap.size, 0, none⟩ = some (.int .i64 x0) ∧ w'.cell? ⟨wr.heap.size, 1, none⟩ = some (.int .i64 7) ∧ w'.cell? ⟨wr.heap.size, 2, none⟩ = some (.int .i64 v) ∧
          (Instr.lookup 95 (.map (some w.heap.size)) (.int .i64 7) false).run Try.prog w' = .ok (mapGet Try.prog 95 w.heap.size (.int .i64 7) w') w' ∧
          (∀ v, (Instr.mapUpdate 95 (.map (some w.heap.size)) (.int .i64 7) v).run Try.prog w' = .ok () (mapPut Try.prog 95 w.heap.size (.int .i64 7) v w')) ∧ KeysOk Try.prog 3 w' w.heap.size)
        (first | assumption | exact HRS.out _ rfl | exact (RS.kept (HRS.out _ rfl) (World.grownBy_alloc _ _ none) (by simp) (by simp)).heap rfl | exact RS.kept (by assumption) (World.grownBy_alloc _ _ none) (by simp) (by simp) | exact RS.kept (by assumption) hgrow hx1.out hx2.out | exact RS.put (by assumption) hx3.out _)
        ((refine step_append_lies _ (by rfl) (.tmp 30) (.tmp 36) 22 (by rfl) (w.heap.size + 1) 25 i0 _ 2 16 Try.underlying22 hi hz0 hz1 hz2 rfl (by decide) s k ((smpL k st v).flatMap encS) (by rfl) (HS.out _ (by first | exact (((Below.refl _ _).alloc (Nat.le_refl _) _).drew).alloc (by simp) _ | exact (((Below.refl _ _).alloc (Nat.le_refl _) _).alloc (by simp) _).drew)) ⟨wr.heap.size + 1, 0, none⟩ 1 1 [.int .i64 x0, .int .i64 v] (by rfl) rfl (World.news_of_block (by first | exact heap_alloc2_new .. | (simp; done))) (by intro u hu; simp at hu; rcases hu with rfl | rfl <;> rfl) (by omega) (by simp only [maxLen]; omega) (by omega) (by simp; omega) _ rfl ?_; intro g cap' w1 hown hgrow hlie hglt))
      all_goals
        (have hgr0 : wr.grownBy w1 s.ownBlock := gb_trans (gb_of_below (by first | exact (((Below.refl _ _).alloc (Nat.le_refl _) _).drew).alloc (by simp) _ | exact (((Below.refl _ _).alloc (Nat.le_refl _) _).alloc (by simp) _).drew) s.ownBlock) hgrow
         obtain ⟨hG1, hG2⟩ := HSt.out w1 g cap' hgr0 hown
         have HG1 := Lib.hid hG1
         have HB1 := Lib.hid ((HB.out.grown hgr0 HB.out.size (fun j hj => HX1.out j hj)).grown hG2 (Nat.le_trans HB.out.size hgr0.size) (fun j hj => by cases hj; exact Nat.le_refl _))
         have HZ1 := Lib.hid (Nat.lt_of_lt_of_le (Nat.lt_of_lt_of_le hsz hgr0.size) hG2.size)
         clear hgr0 hown hgrow hlie hglt hG1 hG2
         go_wp2_with fail
         go_roundw
         case rel => exact ⟨k + 1, by go_num, by omega, HG1.out, HB1.out, HZ1.out⟩
         case measure => simp [intOf]; omega)
    · have hke : n = k := by omega
      subst hke
      clear hlt hk hi hz0 hz1 hz2
      by_cases h0 : n = 0
      · subst h0
        obtain rfl := hD0 rfl
        clear hD0 hD1 hat hput hs
        have HM := Lib.hid hm1
        clear hm1
        go_wp2_with (at_range; refine wpList_range_own _ rfl _ 95 rfl 3 22 keyedInt Try.underlying95 rawE w.heap.size 0 (.map []) rfl HM.out ?_; intro w2 hrg2 hg2 hs2)
        go_frame
        have HB2 := Lib.hid (HB.out.grown hg2 HB.out.size (fun j hj => by cases hj))
        have HRG2 := Lib.hid hrg2
        clear hrg2 hg2 hs2 HB HM HU1
        refine wp_loop_rounds 1 ?_
        rw [rounds_succ]
        go_wp2_with (at_next; refine next_end _ rfl (.tmp 40) rfl (.map []) w.heap.size wr.heap.size 0 _ _ rfl HRG2.out (fun _ => rfl) ?_)
        refine (sortSer_any none 0 0 _ w2 (by omega)).mono ?_
        rintro e w8 ⟨rfl, rfl⟩
        go_wp2_with fail
        refine wp_loop_rounds 1 ?_
        rw [rounds_succ]
        go_wp2_with fail
        refine (mergeSer_any _ _ [] 0 _ (OwnR.nil _ _) (by simp) (by intro u hu; cases hu)).mono ?_
        rintro e w10 ⟨u10, rfl, hown10, hb10⟩
        have HB10 := Lib.hid (HB2.out.trans (hb10.mono HB2.out.size))
        obtain ⟨ua, uc, rfl, huc, hum, -⟩ := OwnR.open_ (enc := encSer) (k := 2) (fun _ => rfl) (.slice none 0 0) hown10
        simp only [List.length_nil] at huc ⊢
        clear hb10 hown10
        go_wp2_with fail
        refine wp_loop_rounds 1 ?_
        rw [rounds_succ]
        go_wp2_with fail
        go_ret
        refine ⟨_, rfl, ?_, HB10.out⟩
        unfold OneSer
        rw [if_pos rfl]
        exact ⟨_, _, rfl⟩
      · have hD := hD1 h0
        subst hD
        clear hD0 hD1 hat hput
        have HM := Lib.hid hm1
        obtain ⟨g, sc, rfl, hgb, hrow⟩ := hs.rowE (by intro e; have := congrArg List.length e; rw [smpL_len] at this; exact h0 this)
        rw [smpL_len] at HM
        have HR := Lib.hid hrow
        clear hm1 hs hrow
        have hnc : n ≤ sc := by have := HR.out.1; rw [smpL_len] at this; exact this
        have hr1 := HR.out.lt
        have HGg := Lib.hid hgb
        go_wp2_with (at_range; refine wpList_range_own _ rfl _ 95 rfl 3 22 keyedInt Try.underlying95 rawE w.heap.size n (D7 (.slice (some ⟨g, 0, none⟩) n sc)) rfl HM.out ?_; intro w2 hrg2 hg2 hs2)
        go_frame
        have HB2 := Lib.hid (HB.out.grown hg2 HB.out.size (fun j hj => by cases hj))
        have HR2 := Lib.hid (HR.out.below (B := wr.heap.size) ((Below.refl _ _).grown hg2 (Nat.le_refl _) (fun j hj => by cases hj)) hr1)
        have hr2 := HR2.out.lt
        have HRG2 := Lib.hid hrg2
        have hrr := Lib.hid (show wr.heap.size < w2.heap.size by omega)
        generalize wr.heap.size = r at *
        clear hrg2 hg2 hs2 HB HR HM HU1
        refine wp_loop_rounds 2 ?_
        rw [rounds_succ]
        go_wp2_with (at_next; refine next_one _ rfl (.tmp 40) rfl (.slice (some ⟨g, 0, none⟩) n sc) w.heap.size r n _ rfl HRG2.out ?_; intro w3 cnt3 hrg3 hgr3 hsz3 hen3)
        have HR3 := Lib.hid (HR2.out.kept hgr3 (fun e => by have := Option.some.inj e; omega))
        have HB3 := Lib.hid (HB2.out.grown hgr3 HB2.out.size (fun j hj => by cases hj; omega))
        have HRG3 := Lib.hid hrg3
        have hr3 : r < w3.heap.size := by have := hgr3.size; have := hrr.out; omega
        have hMr : w.heap.size < r := by omega
        clear hrg3 hgr3 hsz3 hen3 HB2 HR2 HRG2
        refine (reverse_any g sc n (smpL n st v) w3 HR3.out (smpL_len n st v) (by omega)).mono ?_
        rintro e w4 ⟨rfl, hrow4, hg4⟩
        have HR4 := Lib.hid hrow4
        have HB4 := Lib.hid (HB3.out.grown hg4 HB3.out.size (fun j hj => by cases hj; omega))
        have HRG4 := Lib.hid (HRG3.out.kept hg4 (fun e => by have := Option.some.inj e; omega) (fun e => by have := Option.some.inj e; omega))
        clear hrow4 hg4 HR3 HB3 HRG3
        have hlen4 : (smpL n st v).reverse.length = n := by rw [List.length_reverse, smpL_len]
        have HSo := Lib.hid (sortStable_any g sc n _ w4 HR4.out hlen4 (by omega))
        rw [sort_rev hst1] at HSo
        unfold cmpV at HSo
        clear hlen4
        go_wp2_with fail
        refine HSo.out.mono ?_
        rintro e w5 ⟨rfl, hrow5, hg5⟩
        have HR5 := Lib.hid hrow5
        have HB5 := Lib.hid (HB4.out.grown hg5 HB4.out.size (fun j hj => by cases hj; omega))
        have HRG5 := Lib.hid (HRG4.out.kept hg5 (fun e => by have := Option.some.inj e; omega) (fun e => by have := Option.some.inj e; omega))
        clear hrow5 hg5 HR4 HB4 HRG4 HSo
        have HCo := Lib.hid (compact_any _ n _ w5 (HR5.out.samples (smpL_len n st v)) (smpL_len n st v) (smpL_rise hst1))
        unfold eqV at HCo
        go_wp2_with fail
        refine HCo.out.mono ?_
        rintro e w6 ⟨rfl, hb6⟩
        have HR6 := Lib.hid (HR5.out.below hb6 HR5.out.lt)
        have HB6 := Lib.hid (HB5.out.trans (hb6.mono HB5.out.size))
        have HRG6 := Lib.hid (HRG5.out.kept (below_grown hb6) (by simp) (by simp))
        clear hb6 HR5 HB5 HRG5 HCo
        have HS6 := Lib.hid (fun w' (h : Below w6.heap.size w6 w') => (HR6.out.below h HR6.out.lt).samples (smpL_len n st v))
        go_wp2_with (at_builtin; refine app_ser _ rfl (.tmp 52) (.tmp 56) rfl w6.heap.size _ [] (.slice (some ⟨g, 0, none⟩) n sc) w6.heap.size rfl (by rfl) (heap_alloc_new ..) rfl (OwnR.nil _ _) (by simp) (by simp) ?_; intro g7 cap7 w7 hown7 hbl7; have HO7 := Lib.hid hown7; have HB7 := Lib.hid (((Below.refl w6.heap.size w6).alloc (Nat.le_refl _) _).trans hbl7); clear hown7 hbl7)
        rw [rounds_succ]
        go_wp2_with (at_next; refine next_end _ rfl (.tmp 40) rfl (D7 (.slice (some ⟨g, 0, none⟩) n sc)) w.heap.size r n _ (fun _ => false) rfl (HRG6.out.kept (below_grown HB7.out) (by simp) (by simp)) (fun _ => rfl) ?_)
        have HB8 := Lib.hid (HB6.out.trans (HB7.out.mono HB6.out.size))
        have HS8 := Lib.hid (HS6.out _ HB7.out)
        clear HS6 HB6 HRG6 HB7 HR6
        obtain ⟨g8, cap8, e8, hc8, hm8, hg8, hgl8, d0, d1, -⟩ := HO7.out.oneSer
        simp only [Value.slice.injEq, Option.some.injEq, Addr.mk.injEq, and_true, true_and, List.length_nil, Nat.zero_add] at e8
        obtain ⟨rfl, rfl⟩ := e8
        refine (sortSer_any (some ⟨g7, 0, none⟩) 1 cap7 _ w7 (Nat.le_refl _)).mono ?_
        rintro e w8 ⟨rfl, rfl⟩
        go_wp2_with fail
        refine wp_loop_rounds 2 ?_
        rw [rounds_succ]
        go_wp2_with fail
        refine (binSer_any _ _ _ _).mono ?_
        rintro e w8 ⟨rfl, hb8⟩
        have HB9 := Lib.hid (HB8.out.trans (hb8.mono HB8.out.size))
        have HS9 := Lib.hid (HS8.out.below hb8)
        have HO9 := Lib.hid (HO7.out.below hb8)
        clear hb8 d0 d1 hgl8 HB8 HS8 HO7
        go_wp2_with fail
        rw [rounds_succ]
        go_wp2_with fail
        refine (mergeSer_any _ _ _ _ _ HO9.out (by simp) (by intro u hu; simp [encSer] at hu; rcases hu with rfl | rfl <;> rfl)).mono ?_
        rintro e w10 ⟨u10, rfl, hown10, hb10⟩
        obtain ⟨g1, cap1, rfl, hc1, hm1', hg1, hgl1, d0, d1, hf1⟩ := hown10.oneSer
        have HB10 := Lib.hid (HB9.out.trans (hb10.mono HB9.out.size))
        have HS10 := Lib.hid (HS9.out.below hb10)
        have hwg1 : w.heap.size ≤ g1 := Nat.le_trans HB9.out.size hg1
        clear hb10 hown10 HB9 HS9 HO9
        go_wp2_with fail
        refine wp_loop_rounds 2 ?_
        rw [rounds_succ]
        go_wp2_with fail
        refine (clone_any _ _ _ HS10.out (by rw [smpL_len]; omega)).mono ?_
        rintro e w11 ⟨u11, rfl, hown11, hb11⟩
        have HB11 := Lib.hid (HB10.out.trans (hb11.mono HB10.out.size))
        have c0 := (hb11.cell (p := ⟨g1, 0, none⟩) hgl1).trans d0
        have c1 := (hb11.cell (p := ⟨g1, 1, none⟩) hgl1).trans d1
        have f1 := (hb11.frozen (p := ⟨g1, 1, none⟩) hgl1).trans hf1
        obtain ⟨g12, cap12, rfl, hg12, hrow12⟩ := hown11.rowE (by intro e; have := congrArg List.length e; rw [smpL_len] at this; exact h0 this)
        have hgl11 : g1 < w11.heap.size := Nat.lt_of_lt_of_le hgl1 hb11.size
        have HO11 := Lib.hid hown11
        have hne : g12 ≠ g1 := by omega
        clear hb11 hown11 d0 d1 hf1 HS10 HB10 hrow12
        rw [smpL_len] at HO11 ⊢
        go_wp2_with fail
        rw [rounds_succ]
        go_wp2_with fail
        go_ret
        exact ⟨_, rfl, oneSer_set h0 hgl11 c0 c1 HO11.out hgl1, HB11.out.setCell (p := ⟨g1, 1, none⟩) hwg1 _⟩

set_option maxRecDepth 100000 in
theorem split_any (u : Value) (n st : Nat) (v : Int) (w : World) (hu : RowsV w u (rowsL n st v)) (hn : n ≤ 90) (hst1 : 1 ≤ st) (hst : st ≤ 300) :
    Calls Try.prog 17 #[u] w fun e w' => ∃ r, e = .returned r ∧ OneSer w' r n st v ∧ Below w.heap.size w w' := by
  have HP := Lib.hid (seriesPut_any u n st v w hu hn hst1 hst)
  clear hu
  go_enter Try.func17, Try.ntmps17
  go_wp2_with fail
  refine HP.out.mono ?_
  rintro e w1 ⟨r, rfl, h1, h2⟩
  have H1 := Lib.hid h1
  have H2 := Lib.hid h2
  clear h1 h2
  go_wp2_with fail
  go_ret
  exact ⟨_, rfl, H1.out, H2.out⟩

end Go.Proofs.Ytnjcelilljniaaa
