/-
  index.Add of the next series.
-/
import Derived.Test.YtheenlomlmbjaaaGreatDoorGIdx1
import Derived.Test.YtheenlomlmbjaaaGreatDoorGPlan
import Derived.Shelf.SlMaps.Clone
import Derived.Deep.RegionLaw
import Derived.Deep.DeepCutAuto
set_option linter.unusedSimpArgs false
set_option linter.unusedVariables false
namespace Go.Proofs.YtheenlomlmbjaaaGreatDoor
open Go.RowKit Go.Maps

theorem zeroInts (w : World) : (zeroValue 23).run Tryz.prog w = .ok (.slice none 0 0) w := by kernel_rfl
theorem zeroMapS (w : World) : (zeroValue 74).run Tryz.prog w = .ok (.map none) w := by kernel_rfl
theorem HasP.look {w : World} {hm n im : Nat} (h : HasP w hm n im) : (Instr.lookup 66 (.map (some hm)) (.string (bs [97])) false).run Tryz.prog w = .ok (.map (if n = 0 then none else some im)) w := by
  obtain ⟨D, f, N, h1, h2, _, _, h3⟩ := h
  by_cases e : n = 0
  · rw [if_pos e] at h3 ⊢; exact h2.lookZ h1 Tryz.underlying66 (zeroMapS w) (by decide) h3
  · rw [if_neg e] at h3 ⊢; exact h2.lookE h1 Tryz.underlying66 (zeroMapS w) (by decide) h3
theorem KeysP.none {w : World} {km n : Nat} (h : KeysP w km n) (hn : n < 8) : (Instr.lookup 65 (.map (some km)) (.string (bs (kyB n))) true).run Tryz.prog w = .ok (.tuple #[.int .i64 0, .bool false]) w := by
  obtain ⟨D, f, h1, h2, h3⟩ := h
  exact h2.lookN h1 Tryz.underlying65 (zeroI w) (by simp [kyB]) (by rw [h3 n hn, if_neg (by omega)])
theorem oneShape {w : World} {base n : Nat} {v : Value} (h : OwnR 53 2 encL2 w base v (oneL n)) : ∃ b c, v = .slice (some ⟨b, 0, none⟩) 1 c := by
  rcases h.2 with ⟨_, h0⟩ | ⟨g, cap, cur, rfl, _⟩
  · simp [oneL] at h0
  · exact ⟨g, cap, rfl⟩

def RgA (I Y hm im : Nat) (ky : Bytes) (w : World) : Prop :=
  w.cell? ⟨I, 2, none⟩ = some (.map (some hm)) ∧ w.cell? ⟨Y, 0, none⟩ = some (.string (bs [97])) ∧ w.cell? ⟨Y, 1, none⟩ = some (.string (bs ky)) ∧
  (Instr.lookup 66 (.map (some hm)) (.string (bs [97])) false).run Tryz.prog w = .ok (.map (some im)) w ∧
  (Instr.lookup 74 (.map (some im)) (.string (bs ky)) false).run Tryz.prog w = .ok (mapGet Tryz.prog 74 im (.string (bs ky)) w) w ∧
  (∀ v, (Instr.mapUpdate 74 (.map (some im)) (.string (bs ky)) v).run Tryz.prog w = .ok () (mapPut Tryz.prog 74 im (.string (bs ky)) v w)) ∧ HasP w hm 1 im ∧ KeysOk Tryz.prog 9 w im
section
variable {I Y hm im : Nat} {ky : Bytes} {w w' : World}
theorem RgA.mk (hl : ky.length ≤ 100000) (c : w.cell? ⟨I, 2, none⟩ = some (.map (some hm))) (y0 : w.cell? ⟨Y, 0, none⟩ = some (.string (bs [97]))) (y1 : w.cell? ⟨Y, 1, none⟩ = some (.string (bs ky))) (hh : HasP w hm 1 im) (hk : KeysOk Tryz.prog 9 w im) : RgA I Y hm im ky w :=
  ⟨c, y0, y1, by have := hh.look; rwa [if_neg (by omega)] at this, hk.get keyedStr Tryz.underlying74 (zeroInts w) (keyS hl), fun v => (hk.put keyedStr Tryz.underlying74 (keyS hl) v).1, hh, hk⟩
theorem RgA.kept {row : Option Nat} (hl : ky.length ≤ 100000) (h : RgA I Y hm im ky w) (hg : w.grownBy w' row) (h1 : some I ≠ row) (h2 : some Y ≠ row) (h3 : some hm ≠ row) (h4 : some im ≠ row) : RgA I Y hm im ky w' := by
  obtain ⟨a0, a1, a2, _, _, _, hh, hk⟩ := h
  have hc : ∀ B i v, w.cell? ⟨B, i, none⟩ = some v → some B ≠ row → w'.cell? ⟨B, i, none⟩ = some v := fun B i v hv hn => by
    rw [World.cell?_of_block (hg.block B (World.block_lt_of_cell? w _ hv) hn)]; exact hv
  exact RgA.mk hl (hc _ _ _ a0 h1) (hc _ _ _ a1 h2) (hc _ _ _ a2 h2) (hh.stay (hg.block hm hh.mapB.lt h3)) (hk.kept hg h4)
theorem RgA.put (hl : ky.length ≤ 100000) (h : RgA I Y hm im ky w) (h1 : I ≠ im) (h2 : Y ≠ im) (h3 : hm ≠ im) (v : Value) : RgA I Y hm im ky (mapPut Tryz.prog 74 im (.string (bs ky)) v w) := by
  have hk := h.2.2.2.2.2.2.2
  obtain ⟨_, hk', hg⟩ := hk.put keyedStr Tryz.underlying74 (keyS hl) v
  obtain ⟨a0, a1, a2, _, _, _, hh, _⟩ := h
  generalize mapPut Tryz.prog 74 im (.string (bs ky)) v w = W at *
  have hc : ∀ B i v, w.cell? ⟨B, i, none⟩ = some v → B ≠ im → W.cell? ⟨B, i, none⟩ = some v := fun B i v hv hn => by
    rw [World.cell?_of_block (hg.block B (World.block_lt_of_cell? w _ hv) (fun e => hn (Option.some.inj e)))]; exact hv
  exact RgA.mk hl (hc _ _ _ a0 h1) (hc _ _ _ a1 h2) (hc _ _ _ a2 h2) (hh.stay (hg.block hm hh.mapB.lt (fun e => h3 (Option.some.inj e)))) hk'
end
theorem RgA.heap {ky : Bytes} (hl : ky.length ≤ 100000) {I Y hm im : Nat} {w w' : World} (h : RgA I Y hm im ky w) (hh : w'.heap = w.heap) : RgA I Y hm im ky w' := by
  obtain ⟨a0, a1, a2, _, _, _, hp, hk⟩ := h
  have hc : ∀ p, w'.cell? p = w.cell? p := fun p => by unfold World.cell?; rw [hh]
  exact RgA.mk hl ((hc _).trans a0) ((hc _).trans a1) ((hc _).trans a2) (hp.stay (by rw [hh])) (by obtain ⟨es, clock, hb, hk⟩ := hk; exact ⟨es, clock, by rw [hh]; exact hb, hk⟩)
theorem HasP.one {w : World} {hm n im : Nat} (h : HasP w hm n im) (hn : 0 < n) : HasP w hm 1 im := by
  obtain ⟨D, f, N, h1, h2, h3, h4, h5⟩ := h
  exact ⟨D, f, N, h1, h2, fun e => by omega, h4, by rw [if_neg (by omega)] at h5 ⊢; exact h5⟩
theorem InnerP.keysOk {w : World} {F : Bl} {im n : Nat} (h : InnerP F w im n) : KeysOk Tryz.prog 9 w im := by
  obtain ⟨D, f, V, h1, _⟩ := h
  exact h1.keysOk
theorem mapGet_nil {W : World} {F : Bl} {im n : Nat} (h : InnerP F W im n) (hn : n < 8) : mapGet Tryz.prog 74 im (.string (bs (lettB n))) W = .slice none 0 0 :=
  mapGet_eq (h.look hn (zeroInts W))

theorem IxS.pos {F : Bl} {w : World} {I km hm im na nk nh ni nh' : Nat} {av : Value} (h : IxS F w I km hm im na nk nh ni av) (h0 : 0 < nh) (h1 : 0 < nh') : IxS F w I km hm im na nk nh' ni av := by
  refine ⟨h.lt, h.i, h.k, h.a, ?_, fun _ => h.n h0, h.fI, h.fk, h.fh, h.kh, fun _ => h.ih h0, h.fa⟩
  obtain ⟨D, f, N, e1, e2, e3, e4, e5⟩ := h.h
  exact ⟨D, f, N, e1, e2, fun e => by omega, e4, by rw [if_neg (by omega)] at e5 ⊢; exact e5⟩
theorem IxS.conv {F : Bl} {w : World} {I km hm im na nk nh ni nh' ni' : Nat} {av : Value} (h : IxS F w I km hm im na nk nh ni av) (e : nh = nh') (e2 : ni = ni') : IxS F w I km hm im na nk nh' ni' av := by
  subst e; subst e2; exact h
theorem HasP.keysOk {w : World} {hm n im : Nat} (h : HasP w hm n im) : KeysOk Tryz.prog 9 w hm := by
  obtain ⟨D, f, N, h1, _⟩ := h
  exact h1.keysOk
def RgB (I Y hm : Nat) (w : World) : Prop :=
  w.cell? ⟨I, 2, none⟩ = some (.map (some hm)) ∧ w.cell? ⟨Y, 0, none⟩ = some (.string (bs [97])) ∧
  (∀ v, (Instr.mapUpdate 66 (.map (some hm)) (.string (bs [97])) v).run Tryz.prog w = .ok () (mapPut Tryz.prog 66 hm (.string (bs [97])) v w)) ∧ KeysOk Tryz.prog 9 w hm
section
variable {I Y hm : Nat} {w w' : World}
theorem RgB.mk (c : w.cell? ⟨I, 2, none⟩ = some (.map (some hm))) (y0 : w.cell? ⟨Y, 0, none⟩ = some (.string (bs [97]))) (hk : KeysOk Tryz.prog 9 w hm) : RgB I Y hm w :=
  ⟨c, y0, fun v => (hk.put keyedStr Tryz.underlying66 (keyS (by decide)) v).1, hk⟩
theorem RgB.kept {row : Option Nat} (h : RgB I Y hm w) (hg : w.grownBy w' row) (h1 : some I ≠ row) (h2 : some Y ≠ row) (h3 : some hm ≠ row) : RgB I Y hm w' := by
  obtain ⟨a0, a1, _, hk⟩ := h
  have hc : ∀ B i v, w.cell? ⟨B, i, none⟩ = some v → some B ≠ row → w'.cell? ⟨B, i, none⟩ = some v := fun B i v hv hn => by
    rw [World.cell?_of_block (hg.block B (World.block_lt_of_cell? w _ hv) hn)]; exact hv
  exact RgB.mk (hc _ _ _ a0 h1) (hc _ _ _ a1 h2) (hk.kept hg h3)
theorem RgB.put (h : RgB I Y hm w) (h1 : I ≠ hm) (h2 : Y ≠ hm) (v : Value) : RgB I Y hm (mapPut Tryz.prog 66 hm (.string (bs [97])) v w) := by
  obtain ⟨a0, a1, _, hk⟩ := h
  obtain ⟨_, hk', hg⟩ := hk.put keyedStr Tryz.underlying66 (keyS (nm := [97]) (by decide)) v
  generalize mapPut Tryz.prog 66 hm (.string (bs [97])) v w = W at *
  have hc : ∀ B i v, w.cell? ⟨B, i, none⟩ = some v → B ≠ hm → W.cell? ⟨B, i, none⟩ = some v := fun B i v hv hn => by
    rw [World.cell?_of_block (hg.block B (World.block_lt_of_cell? w _ hv) (fun e => hn (Option.some.inj e)))]; exact hv
  exact RgB.mk (hc _ _ _ a0 h1) (hc _ _ _ a1 h2) hk'
theorem RgB.heap (h : RgB I Y hm w) (hh : w'.heap = w.heap) : RgB I Y hm w' := by
  obtain ⟨a0, a1, _, hk⟩ := h
  have hc : ∀ p, w'.cell? p = w.cell? p := fun p => by unfold World.cell?; rw [hh]
  exact RgB.mk ((hc _).trans a0) ((hc _).trans a1) (by obtain ⟨es, clock, hb, hk⟩ := hk; exact ⟨es, clock, by rw [hh]; exact hb, hk⟩)
end
structure Stg (F : Bl) (w W : World) (F' : Bl) : Prop where
  sub : ∀ k, F' k → F k ∨ w.heap.size ≤ k
  out : Out F w W
theorem Stg.grown {F F' : Bl} {w W W' : World} {m : Nat} (h : Stg F w W F') (hg : W.grownBy W' (some m)) (hm : F' m) : Stg F w W' F' :=
  ⟨h.sub, h.out.trans (Out.grown hg) fun k hk e => by
    cases e
    rcases h.sub _ hm with h1 | h1
    · exact h1
    · omega⟩
theorem Stg.below {F F' : Bl} {w W W' : World} (h : Stg F w W F') (hb : Below W.heap.size W W') : Stg F w W' F' := ⟨h.sub, h.out.thenB hb⟩
theorem Stg.more {F F' G : Bl} {w W : World} (h : Stg F w W F') (hG : ∀ k, G k → F' k ∨ w.heap.size ≤ k) : Stg F w W G := ⟨fun k hk => (hG k hk).elim (h.sub k) .inr, h.out⟩
def Added (F : Bl) (I n : Nat) (w : World) (e : Ending) (w' : World) : Prop := e = .returned (.tuple #[.int .i64 (n : Int), .int .i64 0]) ∧ ∃ F', IdxL F' w' I (n + 1) ∧ Stg F w w' F'
def EndA (F : Bl) (I n : Nat) (w W : World) : Prop := ∃ F', IdxL F' W I (n + 1) ∧ Stg F w W F'
def MidA (F : Bl) (I km hm im n : Nat) (w W : World) : Prop := ∃ F' av', IxS F' W I km hm im (n + 1) n n n av' ∧ Stg F w W F'
set_option maxRecDepth 100000 in
set_option maxHeartbeats 4000000 in
attribute [local go_sem ↓] Go.wp_at_zero Go.wp_at_succ in
theorem addP_any (F : Bl) (I n : Nat) (u : Value) (w : World) (h : IdxL F w I n) (hn0 : 0 < n) (hn : n < 5) (hu : RowG 2 encL2 w u (oneL n)) (hua : ∀ b o s m c, u = .slice (some ⟨b, o, s⟩) m c → ¬ F b) :
    Calls Tryz.prog 9 #[.pointer (some ⟨I, 0, none⟩), u] w (Added F I n w) := by
  have HK := Lib.hid (L4.key_any u (oneL n) w hu.labels)
  rw [one_chk (by omega), kyB_eq (by omega)] at HK
  have HC := Lib.hid (fun W (hb : Below w.heap.size w W) => cloneLab_any u (oneL n) W (hu.below hb) (by simp [oneL]))
  obtain ⟨av, km, hm, im, hx⟩ := h
  have HX := Lib.hid hx
  have HU := Lib.hid hu
  have HUA := Lib.hid hua
  obtain ⟨ub, uoff, ucap, rfl, -⟩ := (show RowG 2 encL2 w u (([97], lettB n) :: []) from hu).cons
  clear hx hu hua
  unfold L4.printK L4.errL at HK
  simp only [if_true] at HK
  have hn0' := Lib.hid hn0
  clear hn0
  go_enter Tryz.func9, Tryz.ntmps9
  go_wp2_with fail
  refine HK.out.mono ?_
  rintro e w1 ⟨rfl, hb1⟩
  have hx1 := HX.out.below hb1
  have HB1 := Lib.hid hb1
  have HX1 := Lib.hid hx1
  obtain ⟨c0, c1, c2, a, c, rfl⟩ := hx1.cells
  obtain ⟨A, hA1, hA2, hA3⟩ := hx1.a
  have HA1 := Lib.hid hA1
  have HA2 := Lib.hid hA2
  have HA3 := Lib.hid hA3
  have hIl := lt_of_heap hx1.i
  have hlk := hx1.k.none (by omega)
  have HQ := Lib.hid (fun (W : World) (hb : Below w1.heap.size w1 W) => (hb.cell (p := ⟨I, 0, none⟩) hIl).trans c0)
  have HG := Lib.hid (fun (W w3 : World) (o : Obj) (hb : Below w1.heap.size w1 W) (hg : (W.alloc o).grownBy w3 (Value.slice a n c).ownBlock) => show w3.cell? ⟨I, 0, none⟩ = some (.slice a n c) ∧ w3.frozen? ⟨I, 0, none⟩ = false by
    have h1 := (hg.block I (by have := hb.size; simp; omega) (fun e => (hA1.tyB e.symm).ne ⟨_, _, hx1.i⟩ (by decide) rfl)).trans (heap_old ((hb.block I hIl).trans hx1.i))
    exact ⟨by rw [cell_of_row w3 _ _ _ _ _ h1]; rfl, Lib.frozen_of_heap h1 0⟩)
  clear hb1 hx1 hA1 hA2 hA3
  generalize hky : kyB n = ky at *
  have HKY := Lib.hid hky
  clear hky
  go_upto_region 10 with (fail)
  go_cut [10] (fun i wx => i = .int .i64 (n : Int) ∧ MidA F I km hm im n w wx)
  case first =>
    as_aux_lemma =>
    go_region_law (first
      | (refine stepApp1 tyLabs _ (by rfl) (.tmp 43) (.tmp 46) (by rfl) 0 (.slice a n c) A (some ⟨b2, 0, none⟩, 1, c2') w2.heap.size (by rfl) (by rfl) #[.slice (some ⟨b2, 0, none⟩) 1 c2'] rfl (heap_alloc_new ..) (HA1.out.below (hb2'.alloc hb2'.size _)) (Nat.zero_le _) (by have := HA2.out; omega) ?_; intro g cap' w3 hown hbel hgrow hnewg; have c3 := (HG.out _ _ _ hb2' hgrow).1; have f3 := (HG.out _ _ _ hb2' hgrow).2)
      | (go_simp; go_wp2_with (go_at_call 16; refine (HC.out _ (by first | exact HB1.out | exact HB1.out.drew)).mono ?_; rintro e w2 ⟨u2, rfl, hu2, hb2⟩; obtain ⟨b2, c2', rfl⟩ := oneShape hu2; have hb2' : Below w1.heap.size w1 w2 := (by first | exact hb2 | exact (Below.refl _ _).drew.trans hb2); have q2 := HQ.out _ hb2'; have l2 := World.block_lt_of_cell? w2 _ q2)))
    all_goals
      (have hown' : OwnR 25 1 encSl w3 0 (.slice (some ⟨g, 0, none⟩) (n + 1) cap') (A ++ [(some ⟨b2, 0, none⟩, 1, c2')]) := by
         have h7 := hown
         rw [HA2.out] at h7
         exact h7
       obtain ⟨hI5, ho5⟩ := HX1.out.addAll HA1.out HA2.out hb2' hu2 hgrow hnewg hown' HA3.out
       have hsz := HA2.out
       have HM := Lib.hid (show MidA F I km hm im n w (w3.setCell ⟨I, 0, none⟩ (.slice (some ⟨g, 0, none⟩) (n + 1) cap')) from ⟨_, _, hI5, fun k hk => hk.elim .inl (fun h => .inr (Nat.le_trans HB1.out.size h.1)), (Out.of_below HB1.out).same ho5⟩)
       first | rw [hsz] | skip
       clear hsz hown hbel hgrow hnewg hown' c3 f3 q2 l2 hu2 hb2 hb2' HG HQ HC hlk c0 c1 c2 HX hI5 ho5
       generalize w3.setCell ⟨I, 0, none⟩ (.slice (some ⟨g, 0, none⟩) (n + 1) cap') = W at *
       go_wp2_with fail
       go_meet
       exact ⟨rfl, HM.out⟩)
  case rest =>
    obtain ⟨rfl, F5, av5, hI5, hs5⟩ := hcut
    clear hlk c0 c1 c2 HG HQ HC HX HA1 HA2 HA3 HX1
    obtain ⟨hrun, hI6, hg6⟩ := hI5.addKey hn
    rw [HKY.out] at hrun hI6 hg6
    obtain ⟨-, d1, -⟩ := hI5.cells
    have HI6 := Lib.hid hI6
    have HS6 := Lib.hid (hs5.grown hg6 hI5.fk)
    clear hI5 hs5 hI6 hg6
    obtain ⟨W6, hW6⟩ : ∃ W6, W6 = mapPut Tryz.prog 65 km (.string (bs ky)) (.int .i64 (n : Int)) wc := ⟨_, rfl⟩
    rw [← hW6] at hrun HI6 HS6
    clear hW6
    have hubF := HUA.out _ _ _ _ _ rfl
    obtain ⟨b3, off3, hbe, hbl3, hcc⟩ := HU.out.at_ (fun _ => rfl) ([], []) (i := 0) (by simp [oneL])
    obtain ⟨rfl, rfl⟩ : ub = b3 ∧ uoff = off3 := by simp only [Option.some.injEq, Addr.mk.injEq] at hbe; exact ⟨hbe.1, hbe.2.1⟩
    have hub6 : W6.heap[ub]? = w.heap[ub]? := HS6.out.out.block ub hbl3 hubF
    have cu0 : W6.cell? ⟨ub, uoff, none⟩ = some (.string (bs [97])) := (World.cell?_of_block (w := w) (a := ⟨ub, uoff, none⟩) hub6).trans (by have := hcc 0 (by omega); simpa [oneL, encL2, List.getD] using this)
    have cu1 : W6.cell? ⟨ub, uoff + 1, none⟩ = some (.string (bs (lettB n))) := (World.cell?_of_block (w := w) (a := ⟨ub, uoff + 1, none⟩) hub6).trans (by have := hcc 1 (by omega); simpa [oneL, encL2, List.getD] using this)
    generalize hlt : lettB n = lt at *
    have HLT := Lib.hid hlt
    have hb7 : Below W6.heap.size W6 (W6.alloc (.cells #[.string (bs [97]), .string (bs lt)] 53)) := (Below.refl _ _).alloc (Nat.le_refl _) _
    have HI7 := Lib.hid (HI6.out.below hb7)
    have HY7 := Lib.hid (heap_alloc_new W6 (.cells #[.string (bs [97]), .string (bs lt)] 53))
    have HS7 := Lib.hid (HS6.out.below hb7)
    clear hlt hbe hcc hub6 hubF hbl3 hb7
    go_wp2_with fail
    clear d1 hrun
    refine wp_loop_rounds 2 ?_
    rw [rounds_succ]
    go_upto_region 15 with (fail)
    generalize W6.alloc (.cells #[.string (bs [97]), .string (bs lt)] 53) = W7 at *
    generalize W6.heap.size = Y at *
    clear HI6 HS6 cu0 cu1
    obtain ⟨-, -, e2, -⟩ := HI7.out.cells
    have y0 : W7.cell? ⟨Y, 0, none⟩ = some (.string (bs [97])) := by rw [cell_of_row W7 _ _ _ _ _ HY7.out]; rfl
    have y1 : W7.cell? ⟨Y, 1, none⟩ = some (.string (bs lt)) := by rw [cell_of_row W7 _ _ _ _ _ HY7.out]; rfl
    go_cut [69] (fun b wx => b = .bool false ∧ wx = W7.drew)
    case first =>
      as_aux_lemma =>
      have hlk7 := HasP.look (w := W7.drew) (HI7.out.h.stay rfl)
      rw [if_neg (by have := hn0'.out; omega)] at hlk7
      have hq := fun w => run_eql_map_nil_sl (P := Tryz.prog) w 74 _ _ (some im) Tryz.underlying74
      go_region
      all_goals
        (go_wp2_with fail
         go_meet
         exact ⟨rfl, rfl⟩)
    case rest =>
    obtain ⟨rfl, rfl⟩ := hcut
    have HI8 := Lib.hid (show IxS F5 W7.drew I km hm im (n + 1) (n + 1) n n av5 from HI7.out.below (Below.refl _ _).drew)
    have HY8 := Lib.hid (show W7.drew.heap[Y]? = _ from HY7.out)
    have HS8 := Lib.hid (show Stg F w W7.drew F5 from HS7.out.below (Below.refl _ _).drew)
    clear HI7 HY7 HS7 e2 y0 y1
    generalize W7.drew = W8 at *

    have HL := Lib.hid (show lt.length ≤ 100000 by rw [← HLT.out]; simp [lettB])
    have hnp : 0 < n := hn0'.out
    obtain ⟨HN8, HFi⟩ := HI8.out.n hnp
    have HN8 := Lib.hid HN8
    obtain ⟨-, -, e2, -⟩ := HI8.out.cells
    have y0 : W8.cell? ⟨Y, 0, none⟩ = some (.string (bs [97])) := by rw [cell_of_row W8 _ _ _ _ _ HY8.out]; rfl
    have y1 : W8.cell? ⟨Y, 1, none⟩ = some (.string (bs lt)) := by rw [cell_of_row W8 _ _ _ _ _ HY8.out]; rfl
    have HRA := Lib.hid (fun (W' : World) (hh : W'.heap = W8.heap) => RgA.heap HL.out (RgA.mk HL.out e2 y0 y1 (HI8.out.h.one hnp) HN8.out.keysOk : RgA I Y hm im lt W8) hh)
    have h1m := Lib.hid (show I ≠ im from TyB.neMap ⟨_, _, HI8.out.i⟩ HN8.out.mapB)
    have h2m := Lib.hid (show Y ≠ im from TyB.neMap ⟨_, _, HY8.out⟩ HN8.out.mapB)
    have h3m := Lib.hid (show hm ≠ im from (HI8.out.ih hnp).2.symm)
    clear e2 y0 y1 HFi
    have HNP := Lib.hid hnp
    clear hnp
    go_upto_region 17 with (fail)
    have hgA : mapGet Tryz.prog 74 im (.string (bs lt)) W8.drew = .slice none 0 0 := by rw [← HLT.out]; exact mapGet_nil (F := F5) (HN8.out.keep rfl (fun _ _ _ => rfl)) (by omega)
    have hgB := fun o => show mapGet Tryz.prog 74 im (.string (bs lt)) (W8.drew.alloc o) = .slice none 0 0 by rw [← HLT.out]; exact mapGet_nil (F := F5) (HN8.out.keep (Below.heap_alloc W8.drew o im HN8.out.mapB.lt) (fun k _ ht => Below.heap_alloc W8.drew o k ht.lt)) (by omega)
    have hgC := fun o => show mapGet Tryz.prog 74 im (.string (bs lt)) (W8.alloc o).drew = .slice none 0 0 by rw [← HLT.out]; exact mapGet_nil (F := F5) (HN8.out.keep (Below.heap_alloc W8 o im HN8.out.mapB.lt) (fun k _ ht => Below.heap_alloc W8 o k ht.lt)) (by omega)
    go_region_held3 (fun w' => w'.cell? ⟨I, 2, none⟩ = some (.map (some hm)) ∧ w'.cell? ⟨Y, 0, none⟩ = some (.string (bs [97])) ∧ w'.cell? ⟨Y, 1, none⟩ = some (.string (bs lt)) ∧
        (Instr.lookup 66 (.map (some hm)) (.string (bs [97])) false).run Tryz.prog w' = .ok (.map (some im)) w' ∧
        (Instr.lookup 74 (.map (some im)) (.string (bs lt)) false).run Tryz.prog w' = .ok (mapGet Tryz.prog 74 im (.string (bs lt)) w') w' ∧
        (∀ v, (Instr.mapUpdate 74 (.map (some im)) (.string (bs lt)) v).run Tryz.prog w' = .ok () (mapPut Tryz.prog 74 im (.string (bs lt)) v w')) ∧ HasP w' hm 1 im ∧ KeysOk Tryz.prog 9 w' im)
      (first | assumption | exact HRA.out _ rfl | exact RgA.kept HL.out (by assumption) (World.grownBy_alloc _ _ none) (by simp) (by simp) (by simp) (by simp) | exact RgA.kept HL.out (by assumption) hgrow (by simp [Value.ownBlock]) (by simp [Value.ownBlock]) (by simp [Value.ownBlock]) (by simp [Value.ownBlock]) | exact RgA.put HL.out (by assumption) h1m.out h2m.out h3m.out _ | exact (RgA.kept HL.out (HRA.out _ rfl) (World.grownBy_alloc _ _ none) (by simp) (by simp) (by simp) (by simp)).heap HL.out rfl)
      ((refine stepApp1 tyInt _ (by rfl) (.tmp 95) (.tmp 97) (by rfl) 0 (.slice none 0 0) [] (n : Int) W8.heap.size (by rfl) (by rfl) #[.int .i64 (n : Int)] rfl (heap_alloc_new ..) (OwnR.nil _ _) (Nat.zero_le _) (by simp) ?_; intro g2 cap2 w9 hown hbel hgrow hnewg))
    all_goals
      (have hb9 : Below W8.heap.size W8 w9 := by
         first
           | exact (((Below.refl W8.heap.size W8).drew.alloc (Nat.le_refl _) _)).grown hgrow (by simp) (fun k hk => by simp [Value.ownBlock] at hk)
           | exact (((Below.refl W8.heap.size W8).alloc (Nat.le_refl _) _).drew).grown hgrow (by simp) (fun k hk => by simp [Value.ownBlock] at hk)
       have hown' : OwnR 3 1 encI w9 0 (.slice (some ⟨g2, 0, none⟩) 1 cap2) [(n : Int)] := hown
       have hg2l : W8.heap.size ≤ g2 ∧ g2 < w9.heap.size := ⟨by
         rcases hnewg with e | e
         · simp [Value.ownBlock] at e
         · simp at e; omega, (hown'.tyB rfl).lt⟩
       have HI9 := (HI8.out.below hb9).mono (G := fun k => F5 k ∨ W8.heap.size ≤ k ∧ k < w9.heap.size) (fun k hk => .inl hk) (fun k hk => hk.elim (fun h => Nat.lt_of_lt_of_le (HI8.out.lt k h) hb9.size) (fun h => h.2))
       have hs9 := (HS8.out.below hb9).more (G := fun k => F5 k ∨ W8.heap.size ≤ k ∧ k < w9.heap.size) (fun k hk => hk.elim .inl (fun h => .inr (Nat.le_trans HS8.out.out.size h.1)))
       obtain ⟨-, hI10, hg10⟩ := HI9.addValue HNP.out hn hown' (.inr hg2l)
       rw [HLT.out] at hI10 hg10
       have HEnd := Lib.hid (show EndA F I n w (mapPut Tryz.prog 74 im (.string (bs lt)) (.slice (some ⟨g2, 0, none⟩) 1 cap2) w9) from
         ⟨_, ⟨_, _, _, _, hI10.pos HNP.out (by omega)⟩, hs9.grown hg10 (.inl (HI8.out.n HNP.out).2)⟩)
       clear hb9 hown' hg2l HI9 hI10 hg10 hown hbel hgrow hnewg hgA hgB hgC hs9
       generalize mapPut Tryz.prog 74 im (.string (bs lt)) (.slice (some ⟨g2, 0, none⟩) 1 cap2) w9 = W10 at *
       go_wp2_with fail
       rw [rounds_succ]
       go_wp2_with fail
       go_ret2
       exact ⟨rfl, HEnd.out⟩)

end Go.Proofs.YtheenlomlmbjaaaGreatDoor

namespace Go.Proofs.YtheenlomlmbjaaaGreatDoor
open Go.RowKit Go.Maps

set_option maxRecDepth 100000 in
set_option maxHeartbeats 4000000 in
attribute [local go_sem ↓] Go.wp_at_zero Go.wp_at_succ in
theorem addZ_any (F : Bl) (I n : Nat) (u : Value) (w : World) (h : IdxL F w I n) (hn0 : n = 0) (hn : n < 5) (hu : RowG 2 encL2 w u (oneL n)) (hua : ∀ b o s m c, u = .slice (some ⟨b, o, s⟩) m c → ¬ F b) :
    Calls Tryz.prog 9 #[.pointer (some ⟨I, 0, none⟩), u] w (Added F I n w) := by
  have HK := Lib.hid (L4.key_any u (oneL n) w hu.labels)
  rw [one_chk (by omega), kyB_eq (by omega)] at HK
  have HC := Lib.hid (fun W (hb : Below w.heap.size w W) => cloneLab_any u (oneL n) W (hu.below hb) (by simp [oneL]))
  obtain ⟨av, km, hm, im, hx⟩ := h
  have HX := Lib.hid hx
  have HU := Lib.hid hu
  have HUA := Lib.hid hua
  obtain ⟨ub, uoff, ucap, rfl, -⟩ := (show RowG 2 encL2 w u (([97], lettB n) :: []) from hu).cons
  clear hx hu hua
  unfold L4.printK L4.errL at HK
  simp only [if_true] at HK
  have hn0' := Lib.hid hn0
  clear hn0
  go_enter Tryz.func9, Tryz.ntmps9
  go_wp2_with fail
  refine HK.out.mono ?_
  rintro e w1 ⟨rfl, hb1⟩
  have hx1 := HX.out.below hb1
  have HB1 := Lib.hid hb1
  have HX1 := Lib.hid hx1
  obtain ⟨c0, c1, c2, a, c, rfl⟩ := hx1.cells
  obtain ⟨A, hA1, hA2, hA3⟩ := hx1.a
  have HA1 := Lib.hid hA1
  have HA2 := Lib.hid hA2
  have HA3 := Lib.hid hA3
  have hIl := lt_of_heap hx1.i
  have hlk := hx1.k.none (by omega)
  have HQ := Lib.hid (fun (W : World) (hb : Below w1.heap.size w1 W) => (hb.cell (p := ⟨I, 0, none⟩) hIl).trans c0)
  have HG := Lib.hid (fun (W w3 : World) (o : Obj) (hb : Below w1.heap.size w1 W) (hg : (W.alloc o).grownBy w3 (Value.slice a n c).ownBlock) => show w3.cell? ⟨I, 0, none⟩ = some (.slice a n c) ∧ w3.frozen? ⟨I, 0, none⟩ = false by
    have h1 := (hg.block I (by have := hb.size; simp; omega) (fun e => (hA1.tyB e.symm).ne ⟨_, _, hx1.i⟩ (by decide) rfl)).trans (heap_old ((hb.block I hIl).trans hx1.i))
    exact ⟨by rw [cell_of_row w3 _ _ _ _ _ h1]; rfl, Lib.frozen_of_heap h1 0⟩)
  clear hb1 hx1 hA1 hA2 hA3
  generalize hky : kyB n = ky at *
  have HKY := Lib.hid hky
  clear hky
  go_upto_region 10 with (fail)
  go_cut [10] (fun i wx => i = .int .i64 (n : Int) ∧ MidA F I km hm im n w wx)
  case first =>
    as_aux_lemma =>
    go_region_law (first
      | (refine stepApp1 tyLabs _ (by rfl) (.tmp 43) (.tmp 46) (by rfl) 0 (.slice a n c) A (some ⟨b2, 0, none⟩, 1, c2') w2.heap.size (by rfl) (by rfl) #[.slice (some ⟨b2, 0, none⟩) 1 c2'] rfl (heap_alloc_new ..) (HA1.out.below (hb2'.alloc hb2'.size _)) (Nat.zero_le _) (by have := HA2.out; omega) ?_; intro g cap' w3 hown hbel hgrow hnewg; have c3 := (HG.out _ _ _ hb2' hgrow).1; have f3 := (HG.out _ _ _ hb2' hgrow).2)
      | (go_simp; go_wp2_with (go_at_call 16; refine (HC.out _ (by first | exact HB1.out | exact HB1.out.drew)).mono ?_; rintro e w2 ⟨u2, rfl, hu2, hb2⟩; obtain ⟨b2, c2', rfl⟩ := oneShape hu2; have hb2' : Below w1.heap.size w1 w2 := (by first | exact hb2 | exact (Below.refl _ _).drew.trans hb2); have q2 := HQ.out _ hb2'; have l2 := World.block_lt_of_cell? w2 _ q2)))
    all_goals
      (have hown' : OwnR 25 1 encSl w3 0 (.slice (some ⟨g, 0, none⟩) (n + 1) cap') (A ++ [(some ⟨b2, 0, none⟩, 1, c2')]) := by
         have h7 := hown
         rw [HA2.out] at h7
         exact h7
       obtain ⟨hI5, ho5⟩ := HX1.out.addAll HA1.out HA2.out hb2' hu2 hgrow hnewg hown' HA3.out
       have hsz := HA2.out
       have HM := Lib.hid (show MidA F I km hm im n w (w3.setCell ⟨I, 0, none⟩ (.slice (some ⟨g, 0, none⟩) (n + 1) cap')) from ⟨_, _, hI5, fun k hk => hk.elim .inl (fun h => .inr (Nat.le_trans HB1.out.size h.1)), (Out.of_below HB1.out).same ho5⟩)
       first | rw [hsz] | skip
       clear hsz hown hbel hgrow hnewg hown' c3 f3 q2 l2 hu2 hb2 hb2' HG HQ HC hlk c0 c1 c2 HX hI5 ho5
       generalize w3.setCell ⟨I, 0, none⟩ (.slice (some ⟨g, 0, none⟩) (n + 1) cap') = W at *
       go_wp2_with fail
       go_meet
       exact ⟨rfl, HM.out⟩)
  case rest =>
    obtain ⟨rfl, F5, av5, hI5, hs5⟩ := hcut
    clear hlk c0 c1 c2 HG HQ HC HX HA1 HA2 HA3 HX1
    obtain ⟨hrun, hI6, hg6⟩ := hI5.addKey hn
    rw [HKY.out] at hrun hI6 hg6
    obtain ⟨-, d1, -⟩ := hI5.cells
    have HI6 := Lib.hid hI6
    have HS6 := Lib.hid (hs5.grown hg6 hI5.fk)
    clear hI5 hs5 hI6 hg6
    obtain ⟨W6, hW6⟩ : ∃ W6, W6 = mapPut Tryz.prog 65 km (.string (bs ky)) (.int .i64 (n : Int)) wc := ⟨_, rfl⟩
    rw [← hW6] at hrun HI6 HS6
    clear hW6
    have hubF := HUA.out _ _ _ _ _ rfl
    obtain ⟨b3, off3, hbe, hbl3, hcc⟩ := HU.out.at_ (fun _ => rfl) ([], []) (i := 0) (by simp [oneL])
    obtain ⟨rfl, rfl⟩ : ub = b3 ∧ uoff = off3 := by simp only [Option.some.injEq, Addr.mk.injEq] at hbe; exact ⟨hbe.1, hbe.2.1⟩
    have hub6 : W6.heap[ub]? = w.heap[ub]? := HS6.out.out.block ub hbl3 hubF
    have cu0 : W6.cell? ⟨ub, uoff, none⟩ = some (.string (bs [97])) := (World.cell?_of_block (w := w) (a := ⟨ub, uoff, none⟩) hub6).trans (by have := hcc 0 (by omega); simpa [oneL, encL2, List.getD] using this)
    have cu1 : W6.cell? ⟨ub, uoff + 1, none⟩ = some (.string (bs (lettB n))) := (World.cell?_of_block (w := w) (a := ⟨ub, uoff + 1, none⟩) hub6).trans (by have := hcc 1 (by omega); simpa [oneL, encL2, List.getD] using this)
    generalize hlt : lettB n = lt at *
    have HLT := Lib.hid hlt
    have hb7 : Below W6.heap.size W6 (W6.alloc (.cells #[.string (bs [97]), .string (bs lt)] 53)) := (Below.refl _ _).alloc (Nat.le_refl _) _
    have HI7 := Lib.hid (HI6.out.below hb7)
    have HY7 := Lib.hid (heap_alloc_new W6 (.cells #[.string (bs [97]), .string (bs lt)] 53))
    have HS7 := Lib.hid (HS6.out.below hb7)
    clear hlt hbe hcc hub6 hubF hbl3 hb7
    go_wp2_with fail
    clear d1 hrun
    refine wp_loop_rounds 2 ?_
    rw [rounds_succ]
    go_upto_region 15 with (fail)
    generalize W6.alloc (.cells #[.string (bs [97]), .string (bs lt)] 53) = W7 at *
    generalize W6.heap.size = Y at *
    clear HI6 HS6 cu0 cu1
    obtain ⟨-, -, e2, -⟩ := HI7.out.cells
    have y0 : W7.cell? ⟨Y, 0, none⟩ = some (.string (bs [97])) := by rw [cell_of_row W7 _ _ _ _ _ HY7.out]; rfl
    have y1 : W7.cell? ⟨Y, 1, none⟩ = some (.string (bs lt)) := by rw [cell_of_row W7 _ _ _ _ _ HY7.out]; rfl
    go_cut [69] (fun b wx => b = .bool true ∧ wx = W7.drew)
    case first =>
      as_aux_lemma =>
      have hlk7 := HasP.look (w := W7.drew) (HI7.out.h.stay rfl)
      rw [if_pos hn0'.out] at hlk7
      have hq := fun w => run_eql_map_nil_sl (P := Tryz.prog) w 74 _ _ none Tryz.underlying74
      go_region
      all_goals
        (go_wp2_with fail
         go_meet
         exact ⟨rfl, rfl⟩)
    case rest =>
    obtain ⟨rfl, rfl⟩ := hcut
    have HI8 := Lib.hid (show IxS F5 W7.drew I km hm im (n + 1) (n + 1) n n av5 from HI7.out.below (Below.refl _ _).drew)
    have HY8 := Lib.hid (show W7.drew.heap[Y]? = _ from HY7.out)
    have HS8 := Lib.hid (show Stg F w W7.drew F5 from HS7.out.below (Below.refl _ _).drew)
    clear HI7 HY7 HS7 e2 y0 y1
    generalize W7.drew = W8 at *
    have HI8z := Lib.hid (HI8.out.conv hn0'.out hn0'.out)
    obtain ⟨-, -, e2, -⟩ := HI8.out.cells
    have y0 : W8.cell? ⟨Y, 0, none⟩ = some (.string (bs [97])) := by rw [cell_of_row W8 _ _ _ _ _ HY8.out]; rfl
    have HRB := Lib.hid (fun (W' : World) (hh : W'.heap = W8.heap) => RgB.heap (RgB.mk e2 y0 HI8z.out.h.keysOk : RgB I Y hm W8) hh)
    have h1h := Lib.hid (show I ≠ hm from TyB.neMap ⟨_, _, HI8z.out.i⟩ HI8z.out.h.mapB)
    have h2h := Lib.hid (show Y ≠ hm from TyB.neMap ⟨_, _, HY8.out⟩ HI8z.out.h.mapB)
    have hmm := @run_makeMap Tryz.prog
    clear e2 y0 HI8
    go_upto_region 16 with (fail)
    go_region_held3 (fun w' => w'.cell? ⟨I, 2, none⟩ = some (.map (some hm)) ∧ w'.cell? ⟨Y, 0, none⟩ = some (.string (bs [97])) ∧
        (∀ v, (Instr.mapUpdate 66 (.map (some hm)) (.string (bs [97])) v).run Tryz.prog w' = .ok () (mapPut Tryz.prog 66 hm (.string (bs [97])) v w')) ∧ KeysOk Tryz.prog 9 w' hm)
      (first | assumption | exact HRB.out _ rfl | exact RgB.kept (by assumption) (World.grownBy_alloc _ _ none) (by simp) (by simp) (by simp) | exact RgB.put (by assumption) h1h.out h2h.out _)
      (fail)
    clear hmm HRB
    have hb9 : Below W8.heap.size W8 ((W8.alloc (.map #[] 0)).drew) := ((Below.refl _ _).alloc (Nat.le_refl _) _).drew
    obtain ⟨-, hI9, hg9⟩ := (HI8z.out.below hb9).addName (w0 := w) (m := W8.heap.size) ⟨_, _, heap_alloc_new W8 (.map #[] 0)⟩ (show OMap Tryz.prog 9 ((W8.alloc (.map #[] 0)).drew) W8.heap.size 0 (.map []) from World.ownsMap_made W8 _ _ _) (fun k hk => by have := HI8z.out.lt k hk; omega)
    generalize mapPut Tryz.prog 66 hm (.string (bs [97])) (.map (some W8.heap.size)) ((W8.alloc (.map #[] 0)).drew) = W9 at *
    obtain ⟨F8, hF8⟩ : ∃ F8 : Bl, F8 = (fun k => F5 k ∨ k = W8.heap.size) := ⟨_, rfl⟩
    rw [← hF8] at hI9
    have HS9 := Lib.hid (show Stg F w W9 F8 from ((HS8.out.below hb9).more (G := F8) (fun k hk => by rw [hF8] at hk; exact hk.elim .inl (fun h => .inr (by rw [h]; exact HS8.out.out.size)))).grown hg9 (by rw [hF8]; exact .inl HI8z.out.fh))
    have HY9 := Lib.hid (show W9.heap[Y]? = some (.cells #[.string (bs [97]), .string (bs lt)] 53 (0, 0)) from (hg9.block Y (lt_of_heap (heap_old (o := .map #[] 0) HY8.out)) (fun e => h2h.out (Option.some.inj e))).trans (heap_old HY8.out))
    have HI9z := Lib.hid hI9
    clear hF8 hI9 hg9 hb9 HI8z HS8 HY8 h1h h2h
    generalize W8.heap.size = im2 at *

    have HL := Lib.hid (show lt.length ≤ 100000 by rw [← HLT.out]; simp [lettB])
    have hnp : 0 < 1 := Nat.one_pos
    obtain ⟨HN8, HFi⟩ := HI9z.out.n hnp
    have HN8 := Lib.hid HN8
    obtain ⟨-, -, e2, -⟩ := HI9z.out.cells
    have y0 : W9.cell? ⟨Y, 0, none⟩ = some (.string (bs [97])) := by rw [cell_of_row W9 _ _ _ _ _ HY9.out]; rfl
    have y1 : W9.cell? ⟨Y, 1, none⟩ = some (.string (bs lt)) := by rw [cell_of_row W9 _ _ _ _ _ HY9.out]; rfl
    have HRA := Lib.hid (fun (W' : World) (hh : W'.heap = W9.heap) => RgA.heap HL.out (RgA.mk HL.out e2 y0 y1 (HI9z.out.h.one hnp) HN8.out.keysOk : RgA I Y hm im2 lt W9) hh)
    have h1m := Lib.hid (show I ≠ im2 from TyB.neMap ⟨_, _, HI9z.out.i⟩ HN8.out.mapB)
    have h2m := Lib.hid (show Y ≠ im2 from TyB.neMap ⟨_, _, HY9.out⟩ HN8.out.mapB)
    have h3m := Lib.hid (show hm ≠ im2 from (HI9z.out.ih hnp).2.symm)
    clear e2 y0 y1 HFi
    have HNP := Lib.hid hnp
    clear hnp
    go_upto_region 17 with (fail)
    have hgA : mapGet Tryz.prog 74 im2 (.string (bs lt)) W9.drew = .slice none 0 0 := by rw [← HLT.out]; exact mapGet_nil (F := F8) (by rw [hn0'.out]; exact HN8.out.keep rfl (fun _ _ _ => rfl)) (by omega)
    have hgB := fun o => show mapGet Tryz.prog 74 im2 (.string (bs lt)) (W9.drew.alloc o) = .slice none 0 0 by rw [← HLT.out]; exact mapGet_nil (F := F8) (by rw [hn0'.out]; exact HN8.out.keep (Below.heap_alloc W9.drew o im2 HN8.out.mapB.lt) (fun k _ ht => Below.heap_alloc W9.drew o k ht.lt)) (by omega)
    have hgC := fun o => show mapGet Tryz.prog 74 im2 (.string (bs lt)) (W9.alloc o).drew = .slice none 0 0 by rw [← HLT.out]; exact mapGet_nil (F := F8) (by rw [hn0'.out]; exact HN8.out.keep (Below.heap_alloc W9 o im2 HN8.out.mapB.lt) (fun k _ ht => Below.heap_alloc W9 o k ht.lt)) (by omega)
    go_region_held3 (fun w' => w'.cell? ⟨I, 2, none⟩ = some (.map (some hm)) ∧ w'.cell? ⟨Y, 0, none⟩ = some (.string (bs [97])) ∧ w'.cell? ⟨Y, 1, none⟩ = some (.string (bs lt)) ∧
        (Instr.lookup 66 (.map (some hm)) (.string (bs [97])) false).run Tryz.prog w' = .ok (.map (some im2)) w' ∧
        (Instr.lookup 74 (.map (some im2)) (.string (bs lt)) false).run Tryz.prog w' = .ok (mapGet Tryz.prog 74 im2 (.string (bs lt)) w') w' ∧
        (∀ v, (Instr.mapUpdate 74 (.map (some im2)) (.string (bs lt)) v).run Tryz.prog w' = .ok () (mapPut Tryz.prog 74 im2 (.string (bs lt)) v w')) ∧ HasP w' hm 1 im2 ∧ KeysOk Tryz.prog 9 w' im2)
      (first | assumption | exact HRA.out _ rfl | exact RgA.kept HL.out (by assumption) (World.grownBy_alloc _ _ none) (by simp) (by simp) (by simp) (by simp) | exact RgA.kept HL.out (by assumption) hgrow (by simp [Value.ownBlock]) (by simp [Value.ownBlock]) (by simp [Value.ownBlock]) (by simp [Value.ownBlock]) | exact RgA.put HL.out (by assumption) h1m.out h2m.out h3m.out _ | exact (RgA.kept HL.out (HRA.out _ rfl) (World.grownBy_alloc _ _ none) (by simp) (by simp) (by simp) (by simp)).heap HL.out rfl)
      ((refine stepApp1 tyInt _ (by rfl) (.tmp 95) (.tmp 97) (by rfl) 0 (.slice none 0 0) [] (n : Int) W9.heap.size (by rfl) (by rfl) #[.int .i64 (n : Int)] rfl (heap_alloc_new ..) (OwnR.nil _ _) (Nat.zero_le _) (by simp) ?_; intro g2 cap2 w9 hown hbel hgrow hnewg))
    all_goals
      (have hb9 : Below W9.heap.size W9 w9 := by
         first
           | exact (((Below.refl W9.heap.size W9).drew.alloc (Nat.le_refl _) _)).grown hgrow (by simp) (fun k hk => by simp [Value.ownBlock] at hk)
           | exact (((Below.refl W9.heap.size W9).alloc (Nat.le_refl _) _).drew).grown hgrow (by simp) (fun k hk => by simp [Value.ownBlock] at hk)
       have hown' : OwnR 3 1 encI w9 0 (.slice (some ⟨g2, 0, none⟩) 1 cap2) [(n : Int)] := hown
       have hg2l : W9.heap.size ≤ g2 ∧ g2 < w9.heap.size := ⟨by
         rcases hnewg with e | e
         · simp [Value.ownBlock] at e
         · simp at e; omega, (hown'.tyB rfl).lt⟩
       have HI9 := (HI9z.out.below hb9).mono (G := fun k => F8 k ∨ W9.heap.size ≤ k ∧ k < w9.heap.size) (fun k hk => .inl hk) (fun k hk => hk.elim (fun h => Nat.lt_of_lt_of_le (HI9z.out.lt k h) hb9.size) (fun h => h.2))
       have hs9 := (HS9.out.below hb9).more (G := fun k => F8 k ∨ W9.heap.size ≤ k ∧ k < w9.heap.size) (fun k hk => hk.elim .inl (fun h => .inr (Nat.le_trans HS9.out.out.size h.1)))
       obtain ⟨-, hI10, hg10⟩ := HI9.addValue HNP.out (by omega) (by have := hown'; rw [hn0'.out] at this; exact this) (.inr hg2l)
       rw [show lettB 0 = lt by rw [← HLT.out, hn0'.out]] at hI10 hg10
       have HEnd := Lib.hid (show EndA F I n w (mapPut Tryz.prog 74 im2 (.string (bs lt)) (.slice (some ⟨g2, 0, none⟩) 1 cap2) w9) from
         ⟨_, ⟨_, _, _, _, hI10.conv (by have := hn0'.out; omega) (by have := hn0'.out; omega)⟩, hs9.grown hg10 (.inl (HI9z.out.n HNP.out).2)⟩)
       clear hb9 hown' hg2l HI9 hI10 hg10 hown hbel hgrow hnewg hgA hgB hgC hs9
       generalize mapPut Tryz.prog 74 im2 (.string (bs lt)) (.slice (some ⟨g2, 0, none⟩) 1 cap2) w9 = W10 at *
       go_wp2_with fail
       rw [rounds_succ]
       go_wp2_with fail
       go_ret2
       exact ⟨rfl, HEnd.out⟩)

end Go.Proofs.YtheenlomlmbjaaaGreatDoor
