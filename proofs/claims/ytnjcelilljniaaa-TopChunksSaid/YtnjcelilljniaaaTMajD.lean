/-
  major.Decode of what Encode says.
-/
import Derived.Laws.ResultCell
import Derived.Test.YtnjcelilljniaaaTParts
namespace Go.Proofs.Ytnjcelilljniaaa
open Go.RowKit Go.Shelf

attribute [local go_sem] Oper.semAt_some

/-- A Series as cells. -/
def encSer (u : Value) : List Value := [.int .i64 7, u]
theorem infoSer : (Try.prog.info? 74).map (fun i => (i.zero, i.size, i.bytes)) = some (some (.agg #[.int .i64 0, .slice none 0 0]), 2, 32) := by kernel_rfl

theorem results_cell2 {fn : Func} {p q : Tmp} {t1 t2 : TypeId} (h : fn.results = #[.cell p t1, .cell q t2]) (tmps : Array Value) (P : Program) (w : World) :
    (results fn tmps).run P w =
      ((asAddr (tmps.getD p undef)).run P w).andThen fun a w₁ => ((loadVar t1 a).run P w₁).andThen fun v w₂ => ((asAddr (tmps.getD q undef)).run P w₂).andThen fun b w₃ => ((loadVar t2 b).run P w₃).andThen fun u w₄ => .ok (.tuple #[v, u]) w₄ := by
  simp only [results, h]
  simp [Sem.run_bind, Result.andThen]

theorem cell_own {X Y : World} {p : Addr} {v : Value} {row : Option Nat} (h : X.cell? p = some v) (hg : X.grownBy Y row) (hr : ∀ r, row = some r → ∃ o : Obj, X.heap[r]? = some o ∧ o.isCells = false) : Y.cell? p = some v := by
  have hl := World.block_lt_of_cell? X _ h
  rw [World.cell?_of_block (hg.block p.block hl fun e => ?_)]; exact h
  obtain ⟨o, ho, hc⟩ := hr _ e.symm
  unfold World.cell? at h
  rw [ho] at h
  cases o <;> simp_all [Obj.isCells]
theorem Samples.own {X Y : World} {v : Value} {l : List Smp} {row : Option Nat} (h : Samples X v l) (hg : X.grownBy Y row) (hr : ∀ r, row = some r → ∃ o : Obj, X.heap[r]? = some o ∧ o.isCells = false) : Samples Y v l := by
  obtain ⟨a, cap, hv, h1, h2, h3⟩ := h
  refine ⟨a, cap, hv, h1, h2, fun hx => ?_⟩
  obtain ⟨b, off, ha, hlt, hc⟩ := h3 hx
  exact ⟨b, off, ha, Nat.lt_of_lt_of_le hlt hg.size, fun i hi => ⟨cell_own (hc i hi).1 hg hr, cell_own (hc i hi).2 hg hr⟩⟩
theorem Boxed.own {X Y : World} {B : Nat} {t : TypeId} {v : Value} {row : Option Nat} (h : Boxed X B t v) (hg : X.grownBy Y row) (hr : ∀ r, row = some r → ∃ o : Obj, X.heap[r]? = some o ∧ o.isCells = false) : Boxed Y B t v :=
  (hg.block B h.lt (fun e => by
    obtain ⟨o, ho, hc⟩ := hr B e.symm
    rw [show X.heap[B]? = _ from h] at ho; cases ho; cases hc)).trans h

/-- The box of what has come out. -/
def DecI (N Bo n st : Nat) (v : Int) (pre : List Unit) (W : World) : Prop :=
  ∃ u l, Boxed W Bo 51 u ∧ OwnR 74 2 encSer W N u l ∧ l.length = pre.length ∧ (pre = [] → u = .slice none 0 0) ∧ ∀ x ∈ l, Samples W x (smpL n st v)
theorem decI_own (N Bo n st : Nat) (v : Int) : Own (DecI N Bo n st v) := by
  rintro pre X Y row ⟨u, l, h1, h2, h3, h5, h4⟩ hg hrow
  obtain ⟨_, b1', o1', rfl⟩ := holdsRow_own N Bo 51 74 2 (fun _ : List Unit => l.length) (fun _ => l.flatMap encSer) (fun _ v => v = u) pre X Y row ⟨u, h1, h2, rfl⟩ hg hrow
  exact ⟨_, l, b1', o1', h3, h5, fun x hx => (h4 x hx).own hg hrow⟩
/-- The two boxes of the results. -/
def ResB (B2 B3 : Nat) (W : World) : Prop := Boxed W B2 51 (.slice none 0 0) ∧ Boxed W B3 28 (.int .i64 0)
theorem resB_own {β : Type} (B2 B3 : Nat) : Own (fun (_ : β) W => ResB B2 B3 W) := by
  rintro pre X Y row ⟨h1, h2⟩ hg hrow
  exact ⟨Boxed.own h1 hg hrow, Boxed.own h2 hg hrow⟩

theorem ownsRow_base {W : World} {b b' e s n : Nat} {v : Value} {xs : List Value} (h : W.ownsRow b e s v n xs) (hb : b' ≤ b) : W.ownsRow b' e s v n xs :=
  ⟨h.1, h.2.imp id fun ⟨g, cap, cur, hv, hg, rest⟩ => ⟨g, cap, cur, hv, Nat.le_trans hb hg, rest⟩⟩
theorem keeps_of {A B : World} (h : Below A.heap.size A B) : KeepsOthers A B := ⟨h.size, fun k o hk _ => (h.block k (Array.getElem?_eq_some_iff.1 hk).1).trans hk⟩
theorem samples_set {w : World} {v : Value} {l : List Smp} {B : Nat} {t : TypeId} {u : Value} (h : Samples w v l) (hb : Boxed w B t u) (y : Value) : Samples (w.setCell ⟨B, 0, none⟩ y) v l := by
  obtain ⟨a, cap, hv, h1, h2, h3⟩ := h
  refine ⟨a, cap, hv, h1, h2, fun hx => ?_⟩
  obtain ⟨b, off, ha, hlt, hc⟩ := h3 hx
  have hne : b ≠ B := by
    rintro rfl
    have h4 := (hc 0 (List.length_pos_iff.2 hx)).2
    rw [cell_of_row w b _ _ _ _ hb] at h4
    simp at h4
  refine ⟨b, off, ha, by simpa [World.setCell] using hlt, fun i hi => ⟨?_, ?_⟩⟩
  · rw [World.cell?_of_block (a := ⟨b, off + i * 2, none⟩) (Below.heap_setCell w ⟨B, 0, none⟩ y b hne)]; exact (hc i hi).1
  · rw [World.cell?_of_block (a := ⟨b, off + i * 2 + 1, none⟩) (Below.heap_setCell w ⟨B, 0, none⟩ y b hne)]; exact (hc i hi).2
theorem dec_seen {w1 w3 : World} {a : Option Addr} {m c n st : Nat} {v : Int} {T : TypeId}
    (h : w3 = ((w1.alloc (.cells #[.slice none 0 0] T)).alloc (.cells #[.string (bs (majL n st v))] 9)).alloc (.cells #[.slice a m c] 81))
    (he : Ent w1 (.slice a m c) n (majH n st v).length ((majH n st v).length + (encL n st v).length)) : PSeen w3 (w1.heap.size + 1 + 1) (w1.heap.size + 1) n st v := by
  have hb : Below w1.heap.size w1 w3 := by rw [h]; exact (((Below.refl _ _).alloc (Nat.le_refl _) _).alloc (by simp) _).alloc (by simp; omega) _
  refine ⟨⟨_, ?_, he.below hb⟩, ?_⟩
  · have e : Boxed w3 (w1.heap.size + 1 + 1) 81 (.slice a m c) := by
      rw [h]
      have := Boxed.new ((w1.alloc (.cells #[.slice none 0 0] T)).alloc (.cells #[.string (bs (majL n st v))] 9)) 81 (.slice a m c)
      rwa [World.size_alloc, World.size_alloc] at this
    exact e.cell
  · have e : Boxed w3 (w1.heap.size + 1) 9 (.string (bs (majL n st v))) := by
      rw [h]
      have := (Boxed.new (w1.alloc (.cells #[.slice none 0 0] T)) 9 (.string (bs (majL n st v)))).alloc (.cells #[.slice a m c] 81)
      rwa [World.size_alloc] at this
    exact e.cell

set_option maxRecDepth 100000 in
set_option maxHeartbeats 4000000 in
theorem majDec_any (n st : Nat) (v : Int) (w : World) (hn : n ≤ 90) (hst1 : 1 ≤ st) (hst : st ≤ 300) (hv0 : -9223372036854775808 ≤ v) (hv1 : v ≤ 9223372036854775807) :
    Calls Try.prog 19 #[.string (bs (majL n st v))] w fun e w' => ∃ u, e = .returned (.tuple #[u, .int .i64 0]) ∧ OneSer w' u n st v ∧ Below w.heap.size w w' := by
  have HT := Lib.hid (fun w' => table_any n st v w' hn hst1 hst hv0 hv1)
  have HB0 := Lib.hid (show Below w.heap.size w ((w.alloc (.cells #[.slice none 0 0] 51)).alloc (.cells #[.int .i64 0] 28)) from ((Below.refl _ _).alloc (Nat.le_refl _) _).alloc (by simp) _)
  have HR0 := Lib.hid (show ResB w.heap.size (w.heap.size + 1) ((w.alloc (.cells #[.slice none 0 0] 51)).alloc (.cells #[.int .i64 0] 28)) from
    ⟨(Boxed.new _ _ _).alloc _, by have := Boxed.new (w.alloc (.cells #[.slice none 0 0] 51)) 28 (.int .i64 0); rwa [World.size_alloc] at this⟩)
  refine (callsIn_wide (n := 5)).1 ?_
  refine callsIn_of_wp_marks Try.func19 rfl trivial ?_ rfl
  simp only [Try.ntmps19, List.size_toArray, List.length_cons, List.length_nil, Nat.reduceAdd, Nat.reduceSub, Array.replicate_succ, Array.replicate_zero, List.push_toArray, List.append_toArray, List.nil_append, List.cons_append]
  refine (wpIn_wide (n := 5)).2 ?_
  go_wp2_with fail
  refine (HT.out _).mono ?_
  rintro e w1 ⟨u0, rfl, hent, hb1⟩
  have HE1 := Lib.hid hent
  have HB1 := Lib.hid (HB0.out.trans (hb1.mono HB0.out.size))
  have HR1 : ResB w.heap.size (w.heap.size + 1) w1 := ⟨(hb1.block _ HR0.out.1.lt).trans HR0.out.1, (hb1.block _ HR0.out.2.lt).trans HR0.out.2⟩
  have HR1 := Lib.hid HR1
  obtain ⟨a0, m0, c0, rfl⟩ : ∃ a m c, u0 = .slice a m c := by
    unfold Ent at hent
    split at hent
    · exact ⟨_, _, _, hent⟩
    · obtain ⟨g, cap, hu, _⟩ := hent; exact ⟨_, _, _, hu⟩
  have hws : w.heap.size + 2 ≤ w1.heap.size := Nat.le_trans (by simp) hb1.size
  clear hent hb1
  go_wp2_with fail
  refine (parts_any _ a0 m0 c0 _).mono ?_
  rintro e w3 ⟨rfl, h3⟩
  have H3 := Lib.hid h3
  clear h3
  go_wp2_with fail
  have HP3 := Lib.hid (show PSeen w3 (w1.heap.size + 1 + 1) (w1.heap.size + 1) n st v from dec_seen H3.out HE1.out)
  have HX3 := Lib.hid (show Boxed w3 w1.heap.size 51 (.slice none 0 0) by rw [H3.out]; exact ((Boxed.new _ _ _).alloc _).alloc _)
  have HD3 := Lib.hid (show Below w1.heap.size w1 w3 by rw [H3.out]; exact (((Below.refl _ _).alloc (Nat.le_refl _) _).alloc (by simp) _).alloc (by simp; omega) _)
  have HB3 := Lib.hid (HB1.out.trans (HD3.out.mono HB1.out.size))
  have HR3 := Lib.hid (show ResB w.heap.size (w.heap.size + 1) w3 from ⟨(HD3.out.block _ HR1.out.1.lt).trans HR1.out.1, (HD3.out.block _ HR1.out.2.lt).trans HR1.out.2⟩)
  have hws3 : w1.heap.size < w3.heap.size := HX3.out.lt
  clear H3 HR1 HR0 HB0 HE1 HT
  have HN := Lib.hid (partL_len n)
  obtain ⟨i0, hi, hz0, hz1, hz2⟩ := info_parts infoSer
  refine (wpIn_wide (n := 5)).1 ?_
  refine wpIn_rangeFunc_ownG (F := Fence.wide) rfl (by omega) (gf := 55) (lb := #[.pointer (some ⟨w1.heap.size + 1 + 1, 0, none⟩), .pointer (some ⟨w1.heap.size + 1, 0, none⟩)]) rfl trivial (enters_of Try.func55 (by kernel_rfl) rfl)
    (parts_stops 4 (w1.heap.size + 1 + 1) (w1.heap.size + 1) n st (by omega) v hn hst hv0 hv1 w3 HP3.out) (fun _ _ => trivial) (fun _ _ _ _ _ _ _ _ => trivial) (Below.refl _ _) (fun _ => rfl)
    (fun pre W => DecI w3.heap.size w1.heap.size n st v pre W ∧ (ResB w.heap.size (w.heap.size + 1) W ∧ (Below w.heap.size w W ∧ w3.heap.size ≤ W.heap.size)))
    (fun _ _ _ => False)
    (OwnFrom.and (Own.from (decI_own w3.heap.size w1.heap.size n st v) _) (OwnFrom.and (Own.from (resB_own _ _) _) (OwnFrom.and (ownFrom_below (Nat.le_refl _) HB3.out.size) (fun _ X Y row hs hg _ => Nat.le_trans hs hg.size))))
    (fun _ _ _ _ _ hs _ _ => hs)
    ⟨⟨_, [], HX3.out, OwnR.nil _ _, rfl, fun _ => rfl, by simp⟩, HR3.out, HB3.out, Nat.le_refl _⟩
    ?a₁
    ?assign ?body ?done ?stop
  case assign =>
    intro l x W K hK
    gi_wp2
    exact hK
  case stop =>
    rintro D c pre W _ _ h _
    exact h.elim
  case body =>
    rintro l pre x W ⟨⟨u, xs, bx, ho, hl, hu, hs⟩, hR, hB, hN⟩ hlt
    have hlen := HN.out
    have hn0 : n ≠ 0 := by intro e; rw [e] at hlt; simp [partL] at hlt
    have hpre : pre = [] := List.length_eq_zero_iff.1 (by omega)
    subst hpre
    have hxs : xs = [] := List.length_eq_zero_iff.1 hl
    subst hxs
    obtain rfl := hu rfl
    have HRd := Lib.hid (fun w' => majRead_any n st v w' hn0 hn hst1 hst hv0 hv1)
    have HBx := Lib.hid bx
    have HRow := Lib.hid (show W.ownsRow w3.heap.size 74 2 (.slice none 0 0) 0 [] from ho)
    have HR := Lib.hid hR
    have HB := Lib.hid hB
    have HNW := Lib.hid hN
    have hol : w1.heap.size < W.heap.size := bx.lt
    clear bx ho hl hu hs hR hB hN hlt hlen HR3 HD3 HB3 HP3
    generalize encL n st v = S at *
    gi_wp2
    refine ⟨trivial, (CallsIn.inRound l (callsIn_wide.2 (HRd.out _))).mono ?_⟩
    rintro e w4 ⟨x4, rfl, hs4, hb4⟩
    have HS4 := Lib.hid hs4
    have HB4 := Lib.hid hb4
    obtain ⟨xa, xc, rfl, -⟩ := hs4
    clear hb4
    have hc4 := (HB4.out.cell (p := ⟨w1.heap.size, 0, none⟩) hol).trans HBx.out.cell
    have hol4 : w1.heap.size < w4.heap.size := World.block_lt_of_cell? w4 _ hc4
    have HRow4 := Lib.hid (show w4.ownsRow w3.heap.size 74 2 (.slice none 0 0) 0 [] from (show OwnR 74 2 encSer W w3.heap.size (.slice none 0 0) [] from HRow.out).below HB4.out)
    have HBx4 := Lib.hid (show Boxed w4 w1.heap.size 51 (.slice none 0 0) from (HB4.out.block _ hol).trans HBx.out)
    have hN4 : w3.heap.size ≤ w4.heap.size := Nat.le_trans HNW.out HB4.out.size
    gi_wp2_with (gi_at_builtin; refine wpListIn_append_own _ rfl (.tmp 31) (.tmp 35) 51 rfl w3.heap.size 74 i0 _ 2 32 Try.underlying51 hi hz0 hz1 hz2 rfl (by decide) (.slice none 0 0) 0 [] rfl (HRow4.out.alloc _) ⟨w4.heap.size, 0, none⟩ 1 1 [.int .i64 7, .slice xa (smpL n st v).length xc] rfl rfl (World.news_of_block (heap_alloc_new ..)) (by intro u hu; simp at hu; rcases hu with rfl | rfl <;> rfl) (by simp only [maxLen]; omega) (by omega) (by simp; omega) ?_; intro v' w6 hown' hgrow _; obtain ⟨g', cap', rfl⟩ := ownsRow_succ hown'; obtain ⟨hv1, hv2, hr2, hk2, hb6⟩ := HBx4.out.appended (by decide) (n₀ := w1.heap.size) (ownsRow_base HRow4.out (by omega)) (by omega) (Nat.le_refl _) (ownsRow_base hown' (by omega)) hgrow; have hc1 := hv1.cell; have hf1 := hv1.frozen)
    have hS6 : Samples w6 (.slice xa (smpL n st v).length xc) (smpL n st v) :=
      Samples.own (Samples.own HS4.out (World.grownBy_alloc w4 _ none) (fun r e => by cases e)) hgrow (fun r e => by cases e)
    have hS7 := samples_set hS6 hv1 (.slice (some ⟨g', 0, none⟩) 1 cap')
    have hrow6 := hown'.kept (grownBy_setCell' w6 w1.heap.size (.slice (some ⟨g', 0, none⟩) 1 cap')) (.inr (hv1.not_row (by decide) hown').symm)
    refine ⟨((keeps_of HB4.out).trans hk2).from _, trivial, ⟨_, [.slice xa (smpL n st v).length xc], hv2, hrow6, rfl, by simp, ?_⟩, ⟨?_, ?_⟩, ?_, ?_⟩
    · intro x hx
      rw [List.mem_singleton] at hx
      rw [hx]; exact hS7
    · exact ((hb6.block _ (by omega)).trans (HB4.out.block _ HR.out.1.lt)).trans HR.out.1
    · exact ((hb6.block _ (by omega)).trans (HB4.out.block _ HR.out.2.lt)).trans HR.out.2
    · exact (HB.out.trans (HB4.out.mono HB.out.size)).trans (hb6.mono (by omega))
    · exact Nat.le_trans hN4 hb6.size
  case done =>
    rintro D ys W hD rfl ⟨⟨u, xs, bx, ho, hl, hu, hs⟩, hR, hB, hN⟩ hK
    obtain ⟨ua, uc, rfl, hu1, hu2, hug⟩ := OwnR.open_ (enc := encSer) (k := 2) (fun _ => rfl) (.slice none 0 0) ho
    have HG := Lib.hid hug
    have HBx := Lib.hid bx
    have HO := Lib.hid ho
    have HS := Lib.hid hs
    have HB := Lib.hid hB
    have HK := Lib.hid hK
    have hol : w1.heap.size < W.heap.size := bx.lt
    have hc := bx.cell
    have hc2 := hR.1.cell
    have hc3 := hR.2.cell
    have hf2 := hR.1.frozen
    have hf3 := hR.2.frozen
    have HR2 := Lib.hid ((hR.1.set (.slice ua xs.length uc)).other (B' := w.heap.size + 1) (by omega) (.int .i64 0))
    have HR3 := Lib.hid ((hR.2.other (B' := w.heap.size) (by omega) (.slice ua xs.length uc)).set (.int .i64 0))
    have hg3 := (hR.2.other (B' := w.heap.size) (by omega) (.slice ua xs.length uc)).cell
    have hf3' := (hR.2.other (B' := w.heap.size) (by omega) (.slice ua xs.length uc)).frozen
    have HL := Lib.hid hl
    clear hl
    have HBr := Lib.hid hR
    clear hf3 hu hug bx ho hs hR hB hN hK HP3 HX3 HD3
    go_wp2_with fail
    have hDne : D ≠ w.heap.size ∧ D ≠ w.heap.size + 1 := by omega
    have hK7 : ((W.setCell ⟨w.heap.size, 0, none⟩ (.slice ua xs.length uc)).setCell ⟨w.heap.size + 1, 0, none⟩ (.int .i64 0)).heap[D]? = some (Obj.deferred (some [])) := by
      rw [Below.heap_setCell _ _ _ _ hDne.2, Below.heap_setCell _ _ _ _ hDne.1]; exact HK.out
    have hS7 : ∀ x ∈ xs, Samples ((W.setCell ⟨w.heap.size, 0, none⟩ (.slice ua xs.length uc)).setCell ⟨w.heap.size + 1, 0, none⟩ (.int .i64 0)) x (smpL n st v) :=
      fun x hx => samples_set (samples_set (HS.out x hx) HBr.out.1 _) (HBr.out.2.other (B' := w.heap.size) (by omega) _) _
    have hB7 : Below w.heap.size w ((W.setCell ⟨w.heap.size, 0, none⟩ (.slice ua xs.length uc)).setCell ⟨w.heap.size + 1, 0, none⟩ (.int .i64 0)) :=
      (HB.out.setCell (p := ⟨_, 0, none⟩) (Nat.le_refl _) _).setCell (p := ⟨_, 0, none⟩) (by simp) _
    have hO7 : ∀ g j x, w3.heap.size ≤ g → W.cell? ⟨g, j, none⟩ = some x → ((W.setCell ⟨w.heap.size, 0, none⟩ (.slice ua xs.length uc)).setCell ⟨w.heap.size + 1, 0, none⟩ (.int .i64 0)).cell? ⟨g, j, none⟩ = some x := by
      intro g j x hg hx
      rw [World.cell?_of_block (a := ⟨g, j, none⟩) (Below.heap_setCell _ ⟨w.heap.size + 1, 0, none⟩ _ g (show g ≠ w.heap.size + 1 by omega)), World.cell?_of_block (a := ⟨g, j, none⟩) (Below.heap_setCell W ⟨w.heap.size, 0, none⟩ _ g (show g ≠ w.heap.size by omega))]
      exact hx
    have HR2 := HR2.out
    have HR3 := HR3.out
    have hz7 : ((W.setCell ⟨w.heap.size, 0, none⟩ (.slice ua xs.length uc)).setCell ⟨w.heap.size + 1, 0, none⟩ (.int .i64 0)).heap.size = W.heap.size := by simp [World.setCell]
    refine ⟨by simp, .inl ⟨_, _, rfl, run_takeDeferred hK7, ?_⟩⟩
    generalize (W.setCell ⟨w.heap.size, 0, none⟩ (.slice ua xs.length uc)).setCell ⟨w.heap.size + 1, 0, none⟩ (.int .i64 0) = V at *
    have hgb : V.grownBy (V.putObj D (.deferred none)) (some D) := grownBy_putObj' V D _
    have hgr : ∀ r, some D = some r → ∃ o : Obj, V.heap[r]? = some o ∧ o.isCells = false := fun r e => by cases e; exact ⟨_, hK7, rfl⟩
    have hb2 := (Boxed.own HR2 hgb hgr).cell
    have hb3 := (Boxed.own HR3 hgb hgr).cell
    refine ⟨.tuple #[.slice ua xs.length uc, .int .i64 0], (by rw [results_cell2 rfl]; go_simp), .slice ua xs.length uc, rfl, ?_, hB7.trans (belowK_b (w := w3) HB3.out.size V D _ _ hD hK7 rfl rfl)⟩
    unfold OneSer
    by_cases hz : n = 0
    · rw [if_pos hz]
      have hl : xs.length = 0 := by rw [HL.out, hz]; rfl
      exact ⟨_, _, by rw [hl]⟩
    · rw [if_neg hz]
      have hl : xs.length = 1 := by rw [HL.out]; simp [partL, hz]
      obtain ⟨g, rfl, hgl, hgW, hcs⟩ := HG.out (by omega)
      have k0 := hcs 0 (by omega) 0 (by omega)
      have k1 := hcs 0 (by omega) 1 (by omega)
      refine ⟨g, 0, uc, xs.getD 0 (.slice none 0 0), by rw [hl], ?_, cell_own (hO7 g _ _ hgl k0) hgb hgr, cell_own (hO7 g _ _ hgl k1) hgb hgr, (hS7 _ ?_).own hgb hgr⟩
      · rw [show (V.putObj D (.deferred none)).heap.size = V.heap.size by simp [World.putObj], hz7]; exact hgW
      · cases xs with
        | nil => simp at hl
        | cons x r => simp

end Go.Proofs.Ytnjcelilljniaaa
