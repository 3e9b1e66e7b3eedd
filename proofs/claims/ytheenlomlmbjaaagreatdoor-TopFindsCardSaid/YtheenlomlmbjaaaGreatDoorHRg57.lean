/-
  engine.flush: what holds while the days are put into files (plain).
-/
import Derived.Test.YtheenlomlmbjaaaGreatDoorGOpn1
import Derived.Test.YtheenlomlmbjaaaGreatDoorGChgD
import Derived.Test.YtheenlomlmbjaaaGreatDoorGApply2
import Derived.Test.YtheenlomlmbjaaaGreatDoorGIn
import Derived.Test.YtheenlomlmbjaaaGreatDoorGSel1
set_option linter.unusedSimpArgs false
set_option linter.unusedVariables false
namespace Go.Proofs.YtheenlomlmbjaaaGreatDoor
open Go.RowKit Go.Maps

def ManB (M : Nat) (u : Value) (n : Nat) (w : World) : Prop := w.heap[M]? = some (.cells (manC u n 0) 91 (0, 0))
structure ChgS (wL : World) (S C : Nat) (FSb : Bl) (k : Nat) (FSb' : Bl) (v : Value) (U : List FnV) (f : Fs) (w : World) : Prop where
  st : StoreL FSb' w S f 15
  fs : FsOk f
  ch : ChP C S v U w
  n : U.length ≤ k
  ap : Apart FSb' (chF C v)
  fsub : ∀ j, FSb' j → FSb j ∨ wL.heap.size ≤ j
  csub : ∀ j, chF C v j → j = C ∨ wL.heap.size ≤ j
  sz : wL.heap.size ≤ w.heap.size
section
variable {wL w w' : World} {S C k : Nat} {FSb FSb' : Bl} {v : Value} {U : List FnV} {f : Fs}
theorem ChgS.below (h : ChgS wL S C FSb k FSb' v U f w) (hb : Below w.heap.size w w') : ChgS wL S C FSb k FSb' v U f w' :=
  ⟨h.st.below hb, h.fs, h.ch.below hb, h.n, h.ap, h.fsub, h.csub, Nat.le_trans h.sz hb.size⟩
theorem ChgS.out {G : Bl} (h : ChgS wL S C FSb k FSb' v U f w) (ho : Out G w w') (h1 : Apart FSb' G) (h2 : Apart (chF C v) G) : ChgS wL S C FSb k FSb' v U f w' :=
  ⟨h.st.out ho h1, h.fs, h.ch.out ho h2, h.n, h.ap, h.fsub, h.csub, Nat.le_trans h.sz ho.size⟩
def StpS (wL : World) (S C : Nat) (FSb : Bl) (k : Nat) (g : Fs) (w : World) (e : Ending) (w' : World) : Prop := e = .returned (.tuple #[]) ∧ ∃ FSb' v U, ChgS wL S C FSb (k + 1) FSb' v U g w' ∧ ∃ v0, (∀ j, chF C v0 j → j = C ∨ wL.heap.size ≤ j) ∧ (∀ j, v0.ownBlock = some j → TyB w j 1) ∧ Out (fun j => j = S ∨ chF C v0 j) w w'
theorem ChgS.stp {e : Ending} {g : Fs} (h : ChgS wL S C FSb k FSb' v U f w) (hg : FsOk g) (hs : StpA FSb' C S v U.length g w e w') : StpS wL S C FSb k g w e w' := by
  obtain ⟨h0, F2, v2, U2, h1, h2, h3, h4, h5, h6, h7⟩ := hs
  have hz := h.sz
  refine ⟨h0, F2, v2, U2, ⟨h1, hg, h2, by have := h.n; omega, h4, fun j hj => ?_, fun j hj => ?_, Nat.le_trans h.sz h7.size⟩, v, h.csub, fun j hj => h.ch.u.tyB hj, h7⟩
  · rcases h5 j hj with h8 | h8
    · exact h.fsub j h8
    · exact .inr (by omega)
  · rcases h6 j hj with h8 | h8
    · exact h.csub j h8
    · exact .inr (by omega)
theorem ChgS.write (h : ChgS wL S C FSb k FSb' v U f w) (hk : k < 900) {nm d : Bytes} (hnm : nm ∈ names15) (hd : d.length ≤ limF nm) :
    Calls Tryz.prog 122 #[.pointer (some ⟨C, 0, none⟩), .string (bs nm), .string (bs d)] w (StpS wL S C FSb k (setFs f nm d) w) :=
  (chgWrite_any FSb' C S v U f nm d w h.st h.fs h.ch (by have := h.n; omega) h.ap hnm hd).mono fun _ _ hs => h.stp (h.fs.set hnm hd) hs
theorem ChgS.drop (h : ChgS wL S C FSb k FSb' v U f w) (hk : k < 900) {nm d : Bytes} (hnm : nm ∈ names15) (hd : f nm = some d) :
    Calls Tryz.prog 123 #[.pointer (some ⟨C, 0, none⟩), .string (bs nm)] w (StpS wL S C FSb k (delFs f nm) w) :=
  (chgDrop_any FSb' C S v U f nm d w h.st h.fs h.ch (by have := h.n; omega) h.ap hnm hd).mono fun _ _ hs => h.stp (h.fs.del nm) hs
theorem ChgS.put (h : ChgS wL S C FSb k FSb' v U f w) (hk : k < 900) (u : Value) (ds : List Int) (n : Nat) (hu : RowG 3 encPt w u (ptL ds)) (hds : ds.Pairwise (· < ·)) (hd0 : ∀ d ∈ ds, 0 ≤ d ∧ d < 100000) (hnd : n = ds.length) (h12 : n ≤ 12) :
    Calls Tryz.prog 124 #[.pointer (some ⟨C, 0, none⟩), manV u n 0] w fun e w' => ∃ t : Bytes, t.length ≤ 500 ∧ StpS wL S C FSb k (setFs f manNm t) w e w' :=
  (chgPut_any FSb' C S v U f u ds n w h.st h.fs h.ch (by have := h.n; omega) h.ap hu hds hd0 hnd h12).mono fun _ _ ⟨t, ht, hs⟩ => ⟨t, ht, h.stp (h.fs.set man_in (Nat.le_trans ht (show 500 ≤ limF manNm by decide))) hs⟩
theorem StoreL.tyB {F : Bl} {N : Nat} (h : StoreL F w S f N) : TyB w S 153 := by
  obtain ⟨d, m, m2, D, h1, -⟩ := h.ex
  exact ⟨_, _, h1⟩
theorem ChP.tyB (h : ChP C S v U w) : TyB w C 238 := ⟨_, _, h.c⟩
theorem step_keeps {b t : Nat} {v0 : Value} (hS : TyB w S 153) (hC : TyB w C 238) (hv : ∀ j, v0.ownBlock = some j → TyB w j 1) (ho : Out (fun j => j = S ∨ chF C v0 j) w w') (hb : TyB w b t)
    (h1 : t ≠ 153) (h2 : t ≠ 238) (h3 : t ≠ 1) : w'.heap[b]? = w.heap[b]? :=
  ho.block b hb.lt fun e => by
    rcases e with e | e | e
    · exact hb.ne hS h1 e
    · exact hb.ne hC h2 e
    · exact hb.ne (hv b e) h3 rfl
end

def FlI (wL : World) (S M C : Nat) (FSb : Bl) (was : Bytes) (ds : List Int) (k : Nat) (w : World) : Prop :=
  Out (fun j => j = S ∨ j = M ∨ j = C) wL w ∧ (∃ u, ManB M u k w ∧ OwnR 139 3 encPt w 0 u (ptL (ds.take k))) ∧ ∃ FSb' v U f, ChgS wL S C FSb k FSb' v U f w ∧ f walNm = some was
theorem OwnR.stayT {α : Type} {t k base : Nat} {enc : α → List Value} {w w' : World} {v : Value} {l : List α} (h : OwnR t k enc w base v l) (hk : ∀ b, TyB w b t → w'.heap[b]? = w.heap[b]?) : OwnR t k enc w' base v l := h.stay fun b e => hk b (h.tyB e)
section
variable {wL w w1 w2 w' : World} {S M C k : Nat} {FSb FSb' : Bl} {v : Value} {U : List FnV} {f : Fs} {was : Bytes} {ds : List Int}
theorem ManB.tyB {M n : Nat} {u : Value} {w : World} (h : ManB M u n w) : TyB w M 91 := ⟨_, _, h⟩
theorem ManB.set7 {M n : Nat} {u0 : Value} {w : World} (h : ManB M u0 n w) (u : Value) (m : Nat) : ManB M u m (set7 w M u (.int .i64 m) (.int .i64 0) (.bool false) (.int .i64 0) (.int .i64 0) (.int .i64 0)) := by
  unfold ManB manC at *
  unfold Go.Proofs.YtheenlomlmbjaaaGreatDoor.set7
  have h0 := heap_setC (j := 0) (v := u) h
  have h1 := heap_setC (j := 1) (v := .int .i64 m) h0
  have h2 := heap_setC (j := 2) (v := .int .i64 0) h1
  have h3 := heap_setC (j := 3) (v := .bool false) h2
  have h4 := heap_setC (j := 4) (v := .int .i64 0) h3
  have h5 := heap_setC (j := 5) (v := .int .i64 0) h4
  have h6 := heap_setC (j := 6) (v := .int .i64 0) h5
  rw [h6]
  rfl
theorem fileN_wal {i : Nat} (h : i < 12) : fileN i ≠ walNm := by
  have : ∀ i, i < 12 → fileN i ≠ walNm := by decide +kernel
  exact this i h
theorem FlI.step {u u0 : Value} {x : Bytes} {e : Ending} (hout : Out (fun j => j = S ∨ j = M ∨ j = C) wL w) (hM : ManB M u0 k w) (hML : M < wL.heap.size) (hMF : ¬ FSb M) (hch : ChgS wL S C FSb k FSb' v U f w) (hw : f walNm = some was) (hk : k < ds.length) (h12 : k < 12)
    (hb : Below w.heap.size w w1) (hu : OwnR 139 3 encPt w1 0 u (ptL (ds.take k) ++ [(ds.getD k 0, 0, fileN k)])) (hs : StpS wL S C FSb k (setFs f (fileN k) x) w1 e w2) :
    FlI wL S M C FSb was ds (k + 1) (set7 w2 M u (.int .i64 ((k : Int) + 1)) (.int .i64 0) (.bool false) (.int .i64 0) (.int .i64 0) (.int .i64 0)) := by
  obtain ⟨-, F2, v2, U2, hc2, v0, hv1, hv2, ho2⟩ := hs
  have hch1 := hch.below hb
  have hM1 : ManB M u0 k w1 := (hb.block M (lt_of_heap hM)).trans hM
  have hM2 : ManB M u0 k w2 := (step_keeps hch1.st.tyB hch1.ch.tyB hv2 ho2 hM1.tyB (by decide) (by decide) (by decide)).trans hM1
  have hu2 := hu.stayT (w' := w2) fun b hb => step_keeps hch1.st.tyB hch1.ch.tyB hv2 ho2 hb (by decide) (by decide) (by decide)
  have ho3 := set7_out w2 M u (.int .i64 ((k : Int) + 1)) (.int .i64 0) (.bool false) (.int .i64 0) (.int .i64 0) (.int .i64 0)
  have hcl : ∀ j, j < wL.heap.size → chF C v0 j → j = C := fun j hj h => (hv1 j h).resolve_right (by omega)
  refine ⟨((hout.thenB hb).trans ho2 (fun j hj h => ?_)).trans ho3 (fun j _ e => .inr (.inl e)), ⟨u, ?_, ?_⟩, F2, v2, U2, _, hc2.out ho3 (fun j hj e => ?_) (fun j hj e => ?_), ?_⟩
  · rcases h with h | h
    · exact .inl h
    · exact .inr (.inr (hcl j hj h))
  · exact hM2.set7 u (k + 1)
  · have e := ptL_snoc (ds.take k) (ds.getD k 0)
    rw [← snoc_take ds 0 hk, List.length_take, Nat.min_eq_left (by omega)] at e
    rw [e]
    refine hu2.out ho3 fun j hj e => ?_
    exact (hu2.tyB hj).ne hM2.tyB (by decide) e
  · have e' : j = M := e
    subst e'
    rcases hc2.fsub j hj with h8 | h8
    · exact hMF h8
    · omega
  · have e' : j = M := e
    subst e'
    rcases hj with hj | hj
    · exact (hM2.tyB.ne hc2.ch.tyB (by decide)) hj
    · exact (hc2.ch.u.tyB hj).ne hM2.tyB (by decide) rfl
  · unfold setFs
    rw [if_neg (fun e => fileN_wal h12 e.symm)]
    exact hw
end

end Go.Proofs.YtheenlomlmbjaaaGreatDoor

namespace Go.Proofs.YtheenlomlmbjaaaGreatDoor
open Go.RowKit Go.Maps

section
variable {base : Nat} {w wL w1 w2 w' : World} {X d S I p M C k : Nat} {hv u v : Value} {FSb FI FP FH FSb' : Bl} {f g : Fs} {was : Bytes} {ds : List Int} {H : List Ser} {U : List FnV} {e : Ending}
theorem StpS.outS (h : StpS wL S C FSb k g w1 e w2) (hC : w.heap.size ≤ C) (hL : w.heap.size ≤ wL.heap.size) (ho : Out (fun j => j = S) w w1) : Out (fun j => j = S) w w2 := by
  obtain ⟨-, F2, v2, U2, hc2, v0, hv1, hv2, ho2⟩ := h
  refine ho.trans ho2 fun j hj e => ?_
  rcases e with e | e
  · exact e
  · rcases hv1 j e with h | h <;> omega
theorem StpS.keep (h : StpS wL S C FSb k g w1 e w2) (hc : ChgS wL S C FSb k FSb' v U f w1) {B t : Nat} (hb : TyB w1 B t) (h1 : t ≠ 153) (h2 : t ≠ 238) (h3 : t ≠ 1) : w2.heap[B]? = w1.heap[B]? := by
  obtain ⟨-, F2, v2, U2, hc2, v0, hv1, hv2, ho2⟩ := h
  exact step_keeps hc.st.tyB hc.ch.tyB hv2 ho2 hb h1 h2 h3
theorem FlI.start (hS : StoreL FSb w S f 15) (hfs : FsOk f) (hw : f walNm = some was) (hb : Below w.heap.size w wL) (hM : ManB M (.slice none 0 0) 0 wL) (hC : wL.heap[C]? = some (.cells #[.pointer (some ⟨S, 0, none⟩), .int .i64 0, .slice none 0 0] 238 (0, 0))) (hCl : w.heap.size ≤ C) :
    FlI wL S M C FSb was ds 0 wL := by
  have hcc : ∀ j, chF C (.slice none 0 0) j → j = C := fun j hj => hj.elim id (fun e => by cases e)
  refine ⟨Out.refl _ _, ⟨_, hM, OwnR.nil _ _⟩, FSb, _, [], f, ⟨hS.below hb, hfs, ⟨hC, OwnR.nil _ _, by simp⟩, by simp, fun j hj hc => ?_, fun j hj => .inl hj, fun j hj => .inl (hcc j hj), Nat.le_refl _⟩, hw⟩
  have := hS.lt j hj
  have := hcc j hc
  omega
structure FlE (w wL : World) (S M C : Nat) (FSb : Bl) (u : Value) (ds : List Int) (k : Nat) (f : Fs) (w' : World) : Prop where
  out : Out (fun j => j = S) w w'
  man : ManB M u ds.length w'
  own : OwnR 139 3 encPt w' 0 u (ptL ds)
  ch : ∃ FSb' v U, ChgS wL S C FSb k FSb' v U f w'
  c : w.heap.size ≤ C
  l : w.heap.size ≤ wL.heap.size
theorem FlE.start (h : FlI wL S M C FSb was ds ds.length w') (hb : Below w.heap.size w wL) (hM : w.heap.size ≤ M) (hC : w.heap.size ≤ C) : ∃ u f, FlE w wL S M C FSb u ds ds.length f w' ∧ f walNm = some was := by
  obtain ⟨ho, ⟨u, h1, h2⟩, FSb', v, U, f, h3, h4⟩ := h
  rw [List.take_length] at h2
  refine ⟨u, f, ⟨(Out.of_below (F := fun j => j = S) hb).trans ho fun j hj e => ?_, h1, h2, ⟨_, _, _, h3⟩, hC, hb.size⟩, h4⟩
  rcases e with e | e | e
  · exact e
  · omega
  · omega
theorem FlE.below (h : FlE w wL S M C FSb u ds k f w1) (hb : Below w1.heap.size w1 w2) : FlE w wL S M C FSb u ds k f w2 :=
  ⟨h.out.thenB hb, (hb.block M (lt_of_heap h.man)).trans h.man, h.own.below hb, h.ch.imp fun _ ⟨_, _, h3⟩ => ⟨_, _, h3.below hb⟩, h.c, h.l⟩
theorem FlE.step (h : FlE w wL S M C FSb u ds k f w1) (hs : StpS wL S C FSb k g w1 e w2) : FlE w wL S M C FSb u ds (k + 1) g w2 := by
  obtain ⟨FSb', v, U, hc⟩ := h.ch
  have hk := fun {B t : Nat} (hb : TyB w1 B t) h1 h2 h3 => hs.keep hc hb h1 h2 h3
  refine ⟨hs.outS h.c h.l h.out, (hk h.man.tyB (by decide) (by decide) (by decide)).trans h.man, h.own.stayT fun b hb => hk hb (by decide) (by decide) (by decide), ?_, h.c, h.l⟩
  obtain ⟨-, F2, v2, U2, hc2, -⟩ := hs
  exact ⟨_, _, _, hc2⟩
theorem FlE.write (h : FlE w wL S M C FSb u ds k f w1) (hk : k < 900) {nm x : Bytes} (hnm : nm ∈ names15) (hd : x.length ≤ limF nm) :
    Calls Tryz.prog 122 #[.pointer (some ⟨C, 0, none⟩), .string (bs nm), .string (bs x)] w1 fun e w' => e = .returned (.tuple #[]) ∧ FlE w wL S M C FSb u ds (k + 1) (setFs f nm x) w' := by
  obtain ⟨FSb', v, U, hc⟩ := h.ch
  exact (hc.write hk hnm hd).mono fun e w' hs => ⟨hs.1, h.step hs⟩
theorem FlE.drop (h : FlE w wL S M C FSb u ds k f w1) (hk : k < 900) {nm x : Bytes} (hnm : nm ∈ names15) (hd : f nm = some x) :
    Calls Tryz.prog 123 #[.pointer (some ⟨C, 0, none⟩), .string (bs nm)] w1 fun e w' => e = .returned (.tuple #[]) ∧ FlE w wL S M C FSb u ds (k + 1) (delFs f nm) w' := by
  obtain ⟨FSb', v, U, hc⟩ := h.ch
  exact (hc.drop hk hnm hd).mono fun e w' hs => ⟨hs.1, h.step hs⟩
theorem FlE.put (h : FlE w wL S M C FSb u ds k f w1) (hk : k < 900) (hds : ds.Pairwise (· < ·)) (hd0 : ∀ d ∈ ds, 0 ≤ d ∧ d < 100000) (h12 : ds.length ≤ 12) :
    Calls Tryz.prog 124 #[.pointer (some ⟨C, 0, none⟩), manV u ds.length 0] w1 fun e w' => e = .returned (.tuple #[]) ∧ ∃ t, FlE w wL S M C FSb u ds (k + 1) (setFs f manNm t) w' := by
  obtain ⟨FSb', v, U, hc⟩ := h.ch
  exact (hc.put hk u ds ds.length h.own.rowG hds hd0 rfl h12).mono fun e w' ⟨t, _, hs⟩ => ⟨hs.1, t, h.step hs⟩
theorem ManB.cells {n : Nat} (h : ManB M u n w) : w.cell? ⟨M, 0, none⟩ = some u ∧ w.cell? ⟨M, 1, none⟩ = some (.int .i64 n) ∧ w.cell? ⟨M, 2, none⟩ = some (.int .i64 0) ∧ w.cell? ⟨M, 3, none⟩ = some (.bool false) ∧ w.cell? ⟨M, 4, none⟩ = some (.int .i64 0) ∧ w.cell? ⟨M, 5, none⟩ = some (.int .i64 0) ∧ w.cell? ⟨M, 6, none⟩ = some (.int .i64 0) ∧ ∀ i, w.frozen? ⟨M, i, none⟩ = false := by
  unfold ManB manC at h
  refine ⟨?_, ?_, ?_, ?_, ?_, ?_, ?_, fun i => Lib.frozen_of_heap h i⟩ <;> (rw [cell_of_row w _ _ _ _ _ h]; rfl)

def endX (w : World) (X : Nat) (u n : Value) : World :=
  (((((((((w.setCell ⟨X, 3, none⟩ u).setCell ⟨X, 4, none⟩ n).setCell ⟨X, 5, none⟩ (.int .i64 0)).setCell ⟨X, 6, none⟩ (.bool false)).setCell ⟨X, 7, none⟩ (.int .i64 0)).setCell ⟨X, 8, none⟩ (.int .i64 0)).setCell ⟨X, 9, none⟩ (.int .i64 0)).setCell ⟨X, 10, none⟩ (.slice none 0 0)).setCell ⟨X, 11, none⟩ (.slice none 0 0))
theorem endX_out (w : World) (X : Nat) (u n : Value) : Out (fun j => j = X) w (endX w X u n) :=
  (((((((((Out.setCell w ⟨X, 3, none⟩ u).same (Out.setCell _ ⟨X, 4, none⟩ n)).same (Out.setCell _ ⟨X, 5, none⟩ _)).same (Out.setCell _ ⟨X, 6, none⟩ _)).same (Out.setCell _ ⟨X, 7, none⟩ _)).same (Out.setCell _ ⟨X, 8, none⟩ _)).same (Out.setCell _ ⟨X, 9, none⟩ _)).same (Out.setCell _ ⟨X, 10, none⟩ _)).same (Out.setCell _ ⟨X, 11, none⟩ _))
theorem endX_heap {pv : Value} {nx m : Int} (h : w.heap[X]? = some (.cells (dbC d S I p pv nx hv) 95 (0, 0))) (u : Value) :
    (endX w X u (.int .i64 m)).heap[X]? = some (.cells (dbC d S I p u m (.slice none 0 0)) 95 (0, 0)) := by
  unfold endX
  unfold dbC at h ⊢
  have h3 : (w.setCell ⟨X, 3, none⟩ (u)).heap[X]? = some (.cells #[.pointer (some ⟨d, 0, none⟩), .pointer (some ⟨S, 0, none⟩), .pointer (some ⟨I, 0, none⟩), u, .int .i64 nx, .int .i64 0, .bool false, .int .i64 0, .int .i64 0, .int .i64 0, hv, .slice none 0 0, .int .i64 0, .pointer (some ⟨p, 0, none⟩), .pointer none] 95 (0, 0)) := (heap_setC (j := 3) (v := u) h).trans rfl
  have h4 : ((w.setCell ⟨X, 3, none⟩ (u)).setCell ⟨X, 4, none⟩ (.int .i64 m)).heap[X]? = some (.cells #[.pointer (some ⟨d, 0, none⟩), .pointer (some ⟨S, 0, none⟩), .pointer (some ⟨I, 0, none⟩), u, .int .i64 m, .int .i64 0, .bool false, .int .i64 0, .int .i64 0, .int .i64 0, hv, .slice none 0 0, .int .i64 0, .pointer (some ⟨p, 0, none⟩), .pointer none] 95 (0, 0)) := (heap_setC (j := 4) (v := .int .i64 m) h3).trans rfl
  have h5 : (((w.setCell ⟨X, 3, none⟩ (u)).setCell ⟨X, 4, none⟩ (.int .i64 m)).setCell ⟨X, 5, none⟩ (.int .i64 0)).heap[X]? = some (.cells #[.pointer (some ⟨d, 0, none⟩), .pointer (some ⟨S, 0, none⟩), .pointer (some ⟨I, 0, none⟩), u, .int .i64 m, .int .i64 0, .bool false, .int .i64 0, .int .i64 0, .int .i64 0, hv, .slice none 0 0, .int .i64 0, .pointer (some ⟨p, 0, none⟩), .pointer none] 95 (0, 0)) := (heap_setC (j := 5) (v := .int .i64 0) h4).trans rfl
  have h6 : ((((w.setCell ⟨X, 3, none⟩ (u)).setCell ⟨X, 4, none⟩ (.int .i64 m)).setCell ⟨X, 5, none⟩ (.int .i64 0)).setCell ⟨X, 6, none⟩ (.bool false)).heap[X]? = some (.cells #[.pointer (some ⟨d, 0, none⟩), .pointer (some ⟨S, 0, none⟩), .pointer (some ⟨I, 0, none⟩), u, .int .i64 m, .int .i64 0, .bool false, .int .i64 0, .int .i64 0, .int .i64 0, hv, .slice none 0 0, .int .i64 0, .pointer (some ⟨p, 0, none⟩), .pointer none] 95 (0, 0)) := (heap_setC (j := 6) (v := .bool false) h5).trans rfl
  have h7 : (((((w.setCell ⟨X, 3, none⟩ (u)).setCell ⟨X, 4, none⟩ (.int .i64 m)).setCell ⟨X, 5, none⟩ (.int .i64 0)).setCell ⟨X, 6, none⟩ (.bool false)).setCell ⟨X, 7, none⟩ (.int .i64 0)).heap[X]? = some (.cells #[.pointer (some ⟨d, 0, none⟩), .pointer (some ⟨S, 0, none⟩), .pointer (some ⟨I, 0, none⟩), u, .int .i64 m, .int .i64 0, .bool false, .int .i64 0, .int .i64 0, .int .i64 0, hv, .slice none 0 0, .int .i64 0, .pointer (some ⟨p, 0, none⟩), .pointer none] 95 (0, 0)) := (heap_setC (j := 7) (v := .int .i64 0) h6).trans rfl
  have h8 : ((((((w.setCell ⟨X, 3, none⟩ (u)).setCell ⟨X, 4, none⟩ (.int .i64 m)).setCell ⟨X, 5, none⟩ (.int .i64 0)).setCell ⟨X, 6, none⟩ (.bool false)).setCell ⟨X, 7, none⟩ (.int .i64 0)).setCell ⟨X, 8, none⟩ (.int .i64 0)).heap[X]? = some (.cells #[.pointer (some ⟨d, 0, none⟩), .pointer (some ⟨S, 0, none⟩), .pointer (some ⟨I, 0, none⟩), u, .int .i64 m, .int .i64 0, .bool false, .int .i64 0, .int .i64 0, .int .i64 0, hv, .slice none 0 0, .int .i64 0, .pointer (some ⟨p, 0, none⟩), .pointer none] 95 (0, 0)) := (heap_setC (j := 8) (v := .int .i64 0) h7).trans rfl
  have h9 : (((((((w.setCell ⟨X, 3, none⟩ (u)).setCell ⟨X, 4, none⟩ (.int .i64 m)).setCell ⟨X, 5, none⟩ (.int .i64 0)).setCell ⟨X, 6, none⟩ (.bool false)).setCell ⟨X, 7, none⟩ (.int .i64 0)).setCell ⟨X, 8, none⟩ (.int .i64 0)).setCell ⟨X, 9, none⟩ (.int .i64 0)).heap[X]? = some (.cells #[.pointer (some ⟨d, 0, none⟩), .pointer (some ⟨S, 0, none⟩), .pointer (some ⟨I, 0, none⟩), u, .int .i64 m, .int .i64 0, .bool false, .int .i64 0, .int .i64 0, .int .i64 0, hv, .slice none 0 0, .int .i64 0, .pointer (some ⟨p, 0, none⟩), .pointer none] 95 (0, 0)) := (heap_setC (j := 9) (v := .int .i64 0) h8).trans rfl
  have h10 : ((((((((w.setCell ⟨X, 3, none⟩ (u)).setCell ⟨X, 4, none⟩ (.int .i64 m)).setCell ⟨X, 5, none⟩ (.int .i64 0)).setCell ⟨X, 6, none⟩ (.bool false)).setCell ⟨X, 7, none⟩ (.int .i64 0)).setCell ⟨X, 8, none⟩ (.int .i64 0)).setCell ⟨X, 9, none⟩ (.int .i64 0)).setCell ⟨X, 10, none⟩ (.slice none 0 0)).heap[X]? = some (.cells #[.pointer (some ⟨d, 0, none⟩), .pointer (some ⟨S, 0, none⟩), .pointer (some ⟨I, 0, none⟩), u, .int .i64 m, .int .i64 0, .bool false, .int .i64 0, .int .i64 0, .int .i64 0, .slice none 0 0, .slice none 0 0, .int .i64 0, .pointer (some ⟨p, 0, none⟩), .pointer none] 95 (0, 0)) := (heap_setC (j := 10) (v := .slice none 0 0) h9).trans rfl
  have h11 : (((((((((w.setCell ⟨X, 3, none⟩ (u)).setCell ⟨X, 4, none⟩ (.int .i64 m)).setCell ⟨X, 5, none⟩ (.int .i64 0)).setCell ⟨X, 6, none⟩ (.bool false)).setCell ⟨X, 7, none⟩ (.int .i64 0)).setCell ⟨X, 8, none⟩ (.int .i64 0)).setCell ⟨X, 9, none⟩ (.int .i64 0)).setCell ⟨X, 10, none⟩ (.slice none 0 0)).setCell ⟨X, 11, none⟩ (.slice none 0 0)).heap[X]? = some (.cells #[.pointer (some ⟨d, 0, none⟩), .pointer (some ⟨S, 0, none⟩), .pointer (some ⟨I, 0, none⟩), u, .int .i64 m, .int .i64 0, .bool false, .int .i64 0, .int .i64 0, .int .i64 0, .slice none 0 0, .slice none 0 0, .int .i64 0, .pointer (some ⟨p, 0, none⟩), .pointer none] 95 (0, 0)) := (heap_setC (j := 11) (v := .slice none 0 0) h10).trans rfl
  exact h11
theorem set14_heap {pv : Value} {m : Int} (h : w.heap[X]? = some (.cells (dbC d S I p pv m hv) 95 (0, 0))) :
    (w.setCell ⟨X, 14, none⟩ (.pointer none)).heap[X]? = some (.cells (dbC d S I p pv m hv) 95 (0, 0)) := by
  unfold dbC at *
  rw [heap_setC (j := 14) (v := .pointer none) h]
  rfl
theorem fl_end {n : Nat} (hD : Db base w X d S I p hv FSb FI FP FH g n H) (hE : FlE w wL S M C FSb u ds k f w1) (hf : f walNm = none) (hd0 : ∀ d ∈ ds, 0 ≤ d ∧ d < 100000) (h12 : ds.length ≤ 12) (ho : Out (fun j => j = X) w1 w2) (hX : w2.heap[X]? = some (.cells (dbC d S I p u ds.length (.slice none 0 0)) 95 (0, 0))) :
    FlushA base X S p w w2 := by
  obtain ⟨-, q1, -, q3, -, -, q6, -, -, -, q13, -⟩ := dbC_cells hX
  have hXl := lt_of_heap hD.x
  have hSX : S ≠ X := fun e => hD.sX (e ▸ hD.st.s)
  have hX1 : TyB w1 X 95 := ⟨_, _, (hE.out.block X hXl (fun e => hSX e.symm)).trans hD.x⟩
  obtain ⟨FSb', v, U, hc⟩ := hE.ch
  refine ⟨⟨u, ptL ds, f, ⟨q1, q3, q6, q13, (hc.st.out ho fun j hj e => ?_).ok, ?_, ?_, fun q hq => ?_, ?_⟩, hf⟩, ?_⟩
  · rcases hc.fsub j hj with h1 | h1
    · exact hD.sX (by rw [← e]; exact h1)
    · have := hE.l; omega
  · exact ((hD.po.out hE.out fun j hj e => hD.sp j (by rw [e]; exact hD.st.s) hj).out ho fun j hj e => hD.pX (by rw [← e]; exact hj)).now
  · exact (hE.own.out ho fun j hj e => ((hE.own.tyB hj).ne hX1 (by decide)) e).rowG
  · obtain ⟨i1, i2⟩ := ptL_mem hq
    exact ⟨(hd0 _ i1).1, (hd0 _ i1).2, i2⟩
  · rw [ptL_len]; omega
  · refine (hE.out.mono (G := fun j => j = S ∨ j = X) fun _ _ h => .inl h).trans ho (fun j _ e => .inr e) |>.below (fun j hj e => ?_) (by have := hD.ge.1; omega)
    rcases e with e | e
    · have := hD.ge.2 S (.inl hD.st.s); omega
    · have := hD.ge.1; omega
end
section
variable {ds : List Int} {k : Nat}
theorem day_lt (h : ds.Pairwise (· < ·)) (hk : k < ds.length) : ∀ x ∈ ptL (ds.take k), x.1 < ds.getD k 0 := fun x hx => by
  obtain ⟨h1, -⟩ := ptL_mem hx
  obtain ⟨i, hi, e⟩ := List.getElem_of_mem h1
  rw [List.length_take] at hi
  rw [List.getElem_take] at e
  have := List.pairwise_iff_getElem.1 h i k (by omega) hk (by omega)
  rw [List.getD_eq_getElem?_getD, List.getElem?_eq_getElem hk]
  simp only [Option.getD_some]
  omega
theorem ptL_take_len (hk : k ≤ ds.length) : (ptL (ds.take k)).length = k := by rw [ptL_len, List.length_take]; omega
end
theorem find_last (u : Value) (P : List Pt) (nx pa day : Int) (nm : Bytes) (w : World) (hu : RowG 3 encPt w u (P ++ [(day, 0, nm)])) (hd : ∀ x ∈ P, x.1 < day) (hl : P.length ≤ 900) :
    Calls Tryz.prog 82 #[manV u nx pa, .int .i64 day] w fun e w' => e = .returned (.tuple #[.agg #[.int .i64 day, .int .i64 0, .string (bs nm)], .bool true]) ∧ Below w.heap.size w w' := by
  have e : (P ++ [(day, 0, nm)]).getD P.length (0, 0, []) = (day, 0, nm) := by simp [List.getD]
  have h := find_yes u nx pa (P ++ [(day, 0, nm)]) day P.length w hu (by simp) (by rw [e]) (fun j hj => by
    have e2 : (P ++ [(day, 0, nm)]).getD j (0, 0, []) = P.getD j (0, 0, []) := by simp [List.getD, List.getElem?_append_left hj]
    rw [e2]
    have := hd _ (getD_mem' (0, 0, []) hj)
    omega) (by simp; omega)
  rw [e] at h
  exact h

theorem rowsG_or (u : Value) (S : List Ser) (w : World) (hu : SerV w u S) (hl : S.length ≤ 1000) (ht : tot S ≤ 100000) :
    Calls Tryz.prog 58 #[u] w fun e w' => ∃ r, e = .returned r ∧ RowG 3 encRw w' r (rowsOf S) ∧ (rowsOf S = [] ∨ OwnR 119 3 encRw w' w.heap.size r (rowsOf S)) ∧ Below w.heap.size w w' :=
  (rowsG_any u S w hu hl ht).mono fun e w' ⟨r, h1, h2, h3, h4⟩ => ⟨r, h1, h2, (Classical.em (S = [])).elim (fun e => .inl (by rw [e]; rfl)) (fun e => .inr (h3 e)), h4⟩
theorem rows_stay {R : List Rw} {w w' : World} {v : Value} {b N : Nat} (h : RowG 3 encRw w v R) (ho : R = [] ∨ OwnR 119 3 encRw w N v R) (hb : b < N) (hout : Out (fun j => j = b) w w') : RowG 3 encRw w' v R := by
  rcases ho with e | ho
  · obtain ⟨a, cap, hv, h1, h2, h3, -⟩ := h
    exact ⟨a, cap, hv, h1, h2, h3, fun hx => absurd e hx⟩
  · exact (ho.out hout fun j hj e => by have := (World.ownsRow.lt ho j hj).1; omega).rowG

def FlT (wL : World) (S M C : Nat) : Prop := TyB wL S 153 ∧ TyB wL M 91 ∧ TyB wL C 238
theorem FlT.ne {wL : World} {S M C b t : Nat} (h : FlT wL S M C) (hb : TyB wL b t) (h1 : t ≠ 153) (h2 : t ≠ 91) (h3 : t ≠ 238) : ¬ (b = S ∨ b = M ∨ b = C) := by
  rintro (e | e | e)
  · exact hb.ne h.1 h1 e
  · exact hb.ne h.2.1 h2 e
  · exact hb.ne h.2.2 h3 e
theorem FlT.neMap {wL : World} {S M C b : Nat} (h : FlT wL S M C) (hb : MapB wL b) : ¬ (b = S ∨ b = M ∨ b = C) := by
  rintro (e | e | e)
  · exact h.1.neMap hb e.symm
  · exact h.2.1.neMap hb e.symm
  · exact h.2.2.neMap hb e.symm
theorem st_cells {B : Nat} {v0 v1 v2 v3 v4 v5 v6 : Value} {w : World} {t : Nat} {z : Nat × Nat} (h : w.heap[B]? = some (.cells #[v0, v1, v2, v3, v4, v5, v6] t z)) : w.cell? ⟨B, 0, none⟩ = some v0 ∧ w.cell? ⟨B, 1, none⟩ = some v1 ∧ w.cell? ⟨B, 2, none⟩ = some v2 ∧ w.cell? ⟨B, 3, none⟩ = some v3 ∧ w.cell? ⟨B, 4, none⟩ = some v4 ∧ w.cell? ⟨B, 5, none⟩ = some v5 ∧ w.cell? ⟨B, 6, none⟩ = some v6 := by
  refine ⟨?_, ?_, ?_, ?_, ?_, ?_, ?_⟩ <;> (rw [cell_of_row w _ _ _ _ _ h]; rfl)
theorem pt_cells {B : Nat} {v0 v1 v2 : Value} {w : World} {t : Nat} {z : Nat × Nat} (h : w.heap[B]? = some (.cells #[v0, v1, v2] t z)) : w.cell? ⟨B, 0, none⟩ = some v0 ∧ w.cell? ⟨B, 1, none⟩ = some v1 ∧ w.cell? ⟨B, 2, none⟩ = some v2 := by
  refine ⟨?_, ?_, ?_⟩ <;> (rw [cell_of_row w _ _ _ _ _ h]; rfl)
theorem ed_cells {B : Nat} {v0 v1 v2 v3 : Value} {w : World} {t : Nat} {z : Nat × Nat} (h : w.heap[B]? = some (.cells #[v0, v1, v2, v3] t z)) : w.cell? ⟨B, 0, none⟩ = some v0 ∧ w.cell? ⟨B, 1, none⟩ = some v1 ∧ w.cell? ⟨B, 2, none⟩ = some v2 ∧ w.cell? ⟨B, 3, none⟩ = some v3 := by
  refine ⟨?_, ?_, ?_, ?_⟩ <;> (rw [cell_of_row w _ _ _ _ _ h]; rfl)
theorem put_nil (W : World) : Calls Tryz.prog 60 #[.slice none 0 0, .slice none 0 0] W fun e w' => ∃ r, e = .returned r ∧ SerB W.heap.size w' r [] ∧ Below W.heap.size W w' := by
  have h := putG_any (.slice none 0 0) (.slice none 0 0) [] [] W ⟨[], rfl, RowG.nil _, by simp⟩ SOk.nil (RowG.nil _) ⟨fun id => List.Pairwise.nil, fun r hr => by cases hr⟩ (by simp) (by simp) (by simp [idsOf]) (fun id => by simp [smpOf]) (by simp [tot])
  rw [show putL [] [] = ([] : List Ser) from by rw [putL_nil]; rfl] at h
  exact h
theorem RDay.put {ts : List Int} {R : List Rw} (h : RDay ts R) (hl : ts.length ≤ 12) (W : World) (r v : Value) (hr : SerV W r []) (hv : RowG 3 encRw W v R) :
    Calls Tryz.prog 60 #[r, v] W fun e w' => ∃ u, e = .returned u ∧ SerB W.heap.size w' u (putL [] R) ∧ Below W.heap.size W w' :=
  putG_any r v [] R W hr SOk.nil hv h.ok.prise (by have := h.len; omega) (by simp) (by have := h.ids; omega) (h.smp hl) (by simp [tot])
theorem RDay.rows {ts : List Int} {R : List Rw} (h : RDay ts R) (W : World) (r : Value) (hr : SerV W r (putL [] R)) :
    Calls Tryz.prog 58 #[r] W fun e w' => ∃ u, e = .returned u ∧ RowG 3 encRw w' u (rowsOf (putL [] R)) ∧ Below W.heap.size W w' :=
  (rowsG_any r (putL [] R) W hr (by have := h.ser.2.1; omega) (by have := h.ser.2.2; omega)).mono fun e w' ⟨u, h1, h2, _, h4⟩ => ⟨u, h1, h2, h4⟩
theorem RDay.write {ts : List Int} {R : List Rw} (h : RDay ts R) (hl : ts.length ≤ 12) (W : World) (u : Value) (hu : RowG 3 encRw W u R) :
    ∃ dt : Bytes, dt.length ≤ 1664 ∧ Calls Tryz.prog 119 #[.int .i64 0, u] W fun e w' => e = .returned (.tuple #[.string (bs dt), .int .i64 0]) ∧ Below W.heap.size W w' :=
  ⟨_, h.maj, write0_any u R W hu h.ok (by have := h.len; omega) (by have := h.ids; omega) (h.smp hl)⟩
theorem read_none {F : Bl} {S : Nat} {f : Fs} {w W : World} (h : StoreL F w S f 15) (hf : FsOk f) (hW : W.heap = w.heap) :
    Calls Tryz.prog 27 #[.pointer (some ⟨S, 0, none⟩), .string (bs [])] W fun e w' => e = .returned (.tuple #[.string (bs []), .bool false]) ∧ w' = W :=
  (readF_no (h.stay (by rw [hW]; exact Nat.le_refl _) (fun k _ => by rw [hW])).ok (by simp) (by
    cases e : f [] with
    | none => rfl
    | some d => exact absurd (hf [] d e).1 (by decide))).mono fun _ _ h => ⟨h.1, h.2.symm⟩

end Go.Proofs.YtheenlomlmbjaaaGreatDoor

namespace Go.Proofs.YtheenlomlmbjaaaGreatDoor
open Go.RowKit Go.Maps

theorem enterF (f : FuncId) (hf : f = 60 ∨ f = 58 ∨ f = 27 ∨ f = 120) (args : Array Value) (w : World) : (callFunc f args).run Tryz.prog w = .ok (.enter f args) w := by
  rcases hf with rfl | rfl | rfl | rfl <;> kernel_rfl
theorem call_runF {a : Act} {w : World} {f : FuncId} {xs : Array Operand} {vs : Array Value} {ts : Array TypeId} (hf : f = 60 ∨ f = 58 ∨ f = 27 ∨ f = 120) (hx : xs.map a.eval = vs) (o : Oper) (ho : o.op = .call { callee := .value (.func f), args := xs, argTypes := ts }) :
    (execOp a.eval o).run Tryz.prog w = .ok (.enter f vs) w := by
  unfold execOp
  simp only [ho, resolve, hx]
  simp [Act.eval, Deferred.ofValue, invoke, Sem.run_bind, Result.andThen, enterF f hf]

structure R35 (ops : Array Oper) : Prop where
  size : ops.size = 8
  o0 : OpJ ops 0 (some 134) (.move (.tmp 20))
  o1 : OpJ ops 1 (some 135) (.call { callee := .value (.func 60), args := #[.const (.slice none 0 0), .tmp 134], argTypes := #[42, 105] })
  o2 : OpJ ops 2 (some 136) (.move (.tmp 3))
  o3 : OpJ ops 3 (some 137) (.move (.tmp 17))
  o4 : OpJ ops 4 (some 138) (.lookup 231 (.tmp 136) (.tmp 137) false)
  o5 : OpJ ops 5 (some 139) (.call { callee := .value (.func 60), args := #[.tmp 135, .tmp 138], argTypes := #[42, 105] })
  o6 : OpJ ops 6 (some 140) (.call { callee := .value (.func 58), args := #[.tmp 139], argTypes := #[42] })
  o7 : OpJ ops 7 (some 21) (.assign (.tmp 140))
def dst35 (i : Nat) : Option Nat := [some 134, some 135, some 136, some 137, some 138, some 139, some 140, some 21].getD i none
def dep35 (i : Nat) : List Nat := [[], [0], [], [], [2, 3], [1, 4], [5], [6]].getD i []
def Pr35 (b : Nat) (day : Int) (vd : Value) (Rd : List Rw) (i : Nat) (v : Value) (w : World) : Prop :=
  match i with
  | 0 => v = .slice none 0 0
  | 1 => SerV w v []
  | 2 => v = .map (some b)
  | 3 => v = .int .i64 day
  | 4 => v = vd
  | 5 => SerV w v (putL [] Rd)
  | 6 => RowG 3 encRw w v (rowsOf (putL [] Rd))
  | 7 => RowG 3 encRw w v (rowsOf (putL [] Rd))
  | _ => True
theorem Pr35.below {b : Nat} {day : Int} {vd : Value} {Rd : List Rw} {w w' : World} (hb : Below w.heap.size w w') (i : Nat) (v : Value) (h : Pr35 b day vd Rd i v w) : Pr35 b day vd Rd i v w' := by
  unfold Pr35 at *
  split at h <;> first | exact h | exact SerV.below h hb | exact RowG.below h hb
set_option maxRecDepth 100000 in
theorem region35 {ops : Array Oper} (hR : R35 ops) (hdp : ∀ i l, i ∈ Region.ready .any ops l → ∀ j ∈ dep35 i, l.getD j false = true) (hdep : ((List.range ops.size).all fun k => ((ops[k]?).map fun o => o.after.all fun e => !Region.binds .any e || decide (e.on < k)).getD true) = true)
    {id b : Nat} {day : Int} {vd : Value} {Rd : List Rw} {ts : List Int} {Q : Exit → Act → World → Prop} {a0 : Act} {w0 : World} (hs : 140 < a0.tmps.size) (h20 : a0.eval (.tmp 20) = .slice none 0 0) (h3 : a0.eval (.tmp 3) = .map (some b)) (h17 : a0.eval (.tmp 17) = .int .i64 day)
    (hlk : ∀ W, Below w0.heap.size w0 W → (Instr.lookup 231 (.map (some b)) (.int .i64 day) false).run Tryz.prog W = .ok vd W) (hv : RowG 3 encRw w0 vd Rd) (hRD : RDay ts Rd) (hl : ts.length ≤ 12)
    (hQ : ∀ V w, Below w0.heap.size w0 w → RowG 3 encRw w (V 7) (rowsOf (putL [] Rd)) → Q .normal (setAl dst35 V (Array.replicate 8 true) 8 a0) w) : (Code.region id ops true).wp Tryz.prog Q a0 w0 := by
  refine wp_region_val (by kernel_rfl) dst35 (Pr35 b day vd Rd) (Below w0.heap.size w0) dep35 a0 w0 hR.size ?_ ?_ ?_ ?_ hdp hdep (Below.refl _ _).drew (fun V w h1 h2 => hQ V w h1 (h2 7 (by omega)))
  · intro j d hj hd
    have hc : j = 0 ∨ j = 1 ∨ j = 2 ∨ j = 3 ∨ j = 4 ∨ j = 5 ∨ j = 6 ∨ j = 7 := by omega
    rcases hc with rfl | rfl | rfl | rfl | rfl | rfl | rfl | rfl <;> (simp [dst35] at hd; omega)
  · intro i j d hi hj h1 h2
    have hc : i = 0 ∨ i = 1 ∨ i = 2 ∨ i = 3 ∨ i = 4 ∨ i = 5 ∨ i = 6 ∨ i = 7 := by omega
    have hc2 : j = 0 ∨ j = 1 ∨ j = 2 ∨ j = 3 ∨ j = 4 ∨ j = 5 ∨ j = 6 ∨ j = 7 := by omega
    rcases hc with rfl | rfl | rfl | rfl | rfl | rfl | rfl | rfl <;> rcases hc2 with rfl | rfl | rfl | rfl | rfl | rfl | rfl | rfl <;> (simp [dst35] at h1 h2 <;> omega)
  · intro i V a w hi hb hd hr
    have g20 := (hb 20 (by intro j hj; have hc : j = 0 ∨ j = 1 ∨ j = 2 ∨ j = 3 ∨ j = 4 ∨ j = 5 ∨ j = 6 ∨ j = 7 := by omega
                           rcases hc with rfl | rfl | rfl | rfl | rfl | rfl | rfl | rfl <;> simp [dst35])).trans h20
    have g3 := (hb 3 (by intro j hj; have hc : j = 0 ∨ j = 1 ∨ j = 2 ∨ j = 3 ∨ j = 4 ∨ j = 5 ∨ j = 6 ∨ j = 7 := by omega
                         rcases hc with rfl | rfl | rfl | rfl | rfl | rfl | rfl | rfl <;> simp [dst35])).trans h3
    have g17 := (hb 17 (by intro j hj; have hc : j = 0 ∨ j = 1 ∨ j = 2 ∨ j = 3 ∨ j = 4 ∨ j = 5 ∨ j = 6 ∨ j = 7 := by omega
                           rcases hc with rfl | rfl | rfl | rfl | rfl | rfl | rfl | rfl <;> simp [dst35])).trans h17
    have hcases : i = 0 ∨ i = 1 ∨ i = 2 ∨ i = 3 ∨ i = 4 ∨ i = 5 ∨ i = 6 ∨ i = 7 := by omega
    rcases hcases with rfl | rfl | rfl | rfl | rfl | rfl | rfl | rfl
    · exact opValP hR.o0 (y := .slice none 0 0) (fun o ho => by unfold execOp; simp only [ho, g20, Sem.run_pure]) ⟨_, rfl, rfl, hr, fun _ _ h => h⟩
    · obtain ⟨e0, p0⟩ := hd 0 (by simp [dep35])
      have e0' := e0 134 rfl
      rw [show V 0 = .slice none 0 0 from p0] at e0'
      refine opCallP hR.o1 (f := 60) (args := #[.slice none 0 0, .slice none 0 0]) (call_runF (by decide) (by simp only [List.map_toArray, List.map_cons, List.map_nil]; rw [e0']; rfl)) ((put_nil w).mono ?_)
      rintro e w' ⟨r, rfl, h1, h2⟩
      exact ⟨r, rfl, r, rfl, h1.serV, hr.trans (h2.mono hr.size), Pr35.below h2⟩
    · exact opValP hR.o2 (y := .map (some b)) (fun o ho => by unfold execOp; simp only [ho, g3, Sem.run_pure]) ⟨_, rfl, rfl, hr, fun _ _ h => h⟩
    · exact opValP hR.o3 (y := .int .i64 day) (fun o ho => by unfold execOp; simp only [ho, g17, Sem.run_pure]) ⟨_, rfl, rfl, hr, fun _ _ h => h⟩
    · obtain ⟨e2, p2⟩ := hd 2 (by simp [dep35])
      obtain ⟨e3, p3⟩ := hd 3 (by simp [dep35])
      have e2' := e2 136 rfl
      have e3' := e3 137 rfl
      rw [show V 2 = .map (some b) from p2] at e2'
      rw [show V 3 = .int .i64 day from p3] at e3'
      exact opValP hR.o4 (y := vd) (fun o ho => by unfold execOp; simp only [ho, e2', e3', Sem.run_bind, hlk w hr, Result.andThen_ok, Sem.run_pure]) ⟨_, rfl, rfl, hr, fun _ _ h => h⟩
    · obtain ⟨e1, p1⟩ := hd 1 (by simp [dep35])
      obtain ⟨e4, p4⟩ := hd 4 (by simp [dep35])
      have e1' := e1 135 rfl
      have e4' := e4 138 rfl
      rw [show V 4 = vd from p4] at e4'
      refine opCallP hR.o5 (f := 60) (args := #[V 1, vd]) (call_runF (by decide) (by simp only [List.map_toArray, List.map_cons, List.map_nil]; rw [e1', e4'])) ((hRD.put hl w (V 1) vd p1 (hv.below hr)).mono ?_)
      rintro e w' ⟨r, rfl, h1, h2⟩
      exact ⟨r, rfl, r, rfl, h1.serV, hr.trans (h2.mono hr.size), Pr35.below h2⟩
    · obtain ⟨e5, p5⟩ := hd 5 (by simp [dep35])
      have e5' := e5 139 rfl
      refine opCallP hR.o6 (f := 58) (args := #[V 5]) (call_runF (by decide) (by simp only [List.map_toArray, List.map_cons, List.map_nil]; rw [e5'])) ((hRD.rows w (V 5) p5).mono ?_)
      rintro e w' ⟨r, rfl, h1, h2⟩
      exact ⟨r, rfl, r, rfl, h1, hr.trans (h2.mono hr.size), Pr35.below h2⟩
    · obtain ⟨e6, p6⟩ := hd 6 (by simp [dep35])
      have e6' := e6 140 rfl
      exact opValP hR.o7 (y := V 6) (fun o ho => by unfold execOp; simp only [ho, e6', Sem.run_pure]) ⟨_, rfl, p6, hr, fun _ _ h => h⟩
  · intro i j hj
    by_cases h8 : i < 8
    · have hc : i = 0 ∨ i = 1 ∨ i = 2 ∨ i = 3 ∨ i = 4 ∨ i = 5 ∨ i = 6 ∨ i = 7 := by omega
      rcases hc with rfl | rfl | rfl | rfl | rfl | rfl | rfl | rfl <;> (simp [dep35] at hj <;> omega)
    · rw [dep35, List.getD_eq_getElem?_getD, List.getElem?_eq_none (by simpa using h8)] at hj
      simp at hj
theorem setAl35 (V : Nat → Value) (a0 : Act) : setAl dst35 V (Array.replicate 8 true) 8 a0 = (((((((a0.put (some 134) (V 0)).put (some 135) (V 1)).put (some 136) (V 2)).put (some 137) (V 3)).put (some 138) (V 4)).put (some 139) (V 5)).put (some 140) (V 6)).put (some 21) (V 7) := rfl

end Go.Proofs.YtheenlomlmbjaaaGreatDoor

namespace Go.Proofs.YtheenlomlmbjaaaGreatDoor
open Go.RowKit Go.Maps

structure R40 (ops : Array Oper) : Prop where
  size : ops.size = 12
  o0 : OpJ ops 0 (some 157) (.move (.tmp 0))
  o1 : OpJ ops 1 (some 158) (.nilCheck (.tmp 157))
  o2 : OpJ ops 2 (some 159) (.fieldAddr 95 (.tmp 158) 1)
  o3 : OpJ ops 3 (some 160) (.load 84 (.tmp 159))
  o4 : OpJ ops 4 (some 161) (.fieldAddr 139 (.tmp 18) 2)
  o5 : OpJ ops 5 (some 162) (.load 9 (.tmp 161))
  o6 : OpJ ops 6 (some 163) (.call { callee := .value (.func 27), args := #[.tmp 160, .tmp 162], argTypes := #[84, 9] })
  o7 : OpJ ops 7 (some 156) (.move (.tmp 163))
  o8 : OpJ ops 8 (some 164) (.extract (.tmp 156) 0)
  o9 : OpJ ops 9 (some 165) (.extract (.tmp 156) 1)
  o10 : OpJ ops 10 (some 24) (.assign (.tmp 164))
  o11 : OpJ ops 11 (some 25) (.assign (.tmp 165))
def ds40 : List (Option Nat) := [some 157, some 158, some 159, some 160, some 161, some 162, some 163, some 156, some 164, some 165, some 24, some 25]
def dp40 : List (List Nat) := [[], [0], [1], [2], [], [4], [3, 5], [6], [7], [7], [8], [9]]
def Vl40 (X S PB : Nat) (i : Nat) : Value :=
  [.pointer (some ⟨X, 0, none⟩), .pointer (some ⟨X, 0, none⟩), .pointer (some ⟨X, 1, none⟩), .pointer (some ⟨S, 0, none⟩), .pointer (some ⟨PB, 2, none⟩), .string (bs []), .tuple #[.string (bs []), .bool false], .tuple #[.string (bs []), .bool false], .string (bs []), .bool false, .string (bs []), .bool false].getD i undef
theorem run_fa1 (w : World) (X : Nat) : (Instr.fieldAt 95 (.pointer (some ⟨X, 0, none⟩)) 1).run Tryz.prog w = .ok (.pointer (some ⟨X, 1, none⟩)) w := by simp [go_sem]
theorem run_fa2 (w : World) (X : Nat) : (Instr.fieldAt 139 (.pointer (some ⟨X, 0, none⟩)) 2).run Tryz.prog w = .ok (.pointer (some ⟨X, 2, none⟩)) w := by simp [go_sem]
theorem run_ld1 {w : World} {B j : Nat} {v : Value} (h : w.cell? ⟨B, j, none⟩ = some v) (t : TypeId) (ht : t = 84 ∨ t = 9 ∨ t = 3) : (Instr.loadAt t (.pointer (some ⟨B, j, none⟩))).run Tryz.prog w = .ok v w := by
  rcases ht with rfl | rfl | rfl <;> simp [go_sem, Instr.loadAt, Instr.sureAddr, h]
theorem run_ex0 (w : World) (x y : Value) : (Instr.extract (.tuple #[x, y]) 0).run Tryz.prog w = .ok x w := by simp [go_sem]
theorem run_ex1 (w : World) (x y : Value) : (Instr.extract (.tuple #[x, y]) 1).run Tryz.prog w = .ok y w := by simp [go_sem]
set_option maxRecDepth 100000 in
theorem region40 {ops : Array Oper} (hR : R40 ops) (hdp : ((List.range ops.size).all fun k => ((ops[k]?).map fun o => (depL dp40 k).all fun j => o.after.any fun e => e.on == j && Region.binds .any e).getD true) = true) (hdep : ((List.range ops.size).all fun k => ((ops[k]?).map fun o => o.after.all fun e => !Region.binds .any e || decide (e.on < k)).getD true) = true)
    {id X S PB : Nat} {Q : Exit → Act → World → Prop} {a0 : Act} {w0 : World} (hs : 165 < a0.tmps.size) (h0 : a0.eval (.tmp 0) = .pointer (some ⟨X, 0, none⟩)) (h18 : a0.eval (.tmp 18) = .pointer (some ⟨PB, 0, none⟩))
    (c1 : w0.cell? ⟨X, 1, none⟩ = some (.pointer (some ⟨S, 0, none⟩))) (c2 : w0.cell? ⟨PB, 2, none⟩ = some (.string (bs [])))
    (hrd : ∀ W, W.heap = w0.heap → Calls Tryz.prog 27 #[.pointer (some ⟨S, 0, none⟩), .string (bs [])] W fun e w' => e = .returned (.tuple #[.string (bs []), .bool false]) ∧ w' = W)
    (hQ : ∀ w, Below w0.heap.size w0 w → w.heap = w0.heap → Q .normal (setAl (dstL ds40) (Vl40 X S PB) (Array.replicate 12 true) 12 a0) w) : (Code.region id ops true).wp Tryz.prog Q a0 w0 := by
  have hcell : ∀ w, (Below w0.heap.size w0 w ∧ w.heap = w0.heap) → w.cell? ⟨X, 1, none⟩ = some (.pointer (some ⟨S, 0, none⟩)) ∧ w.cell? ⟨PB, 2, none⟩ = some (.string (bs [])) := fun w h => by
    have hc : ∀ p, w.cell? p = w0.cell? p := fun p => by unfold World.cell?; rw [h.2]
    exact ⟨(hc _).trans c1, (hc _).trans c2⟩
  refine wp_region_val (by kernel_rfl) (dstL ds40) (fun j v _ => v = Vl40 X S PB j) (fun w => Below w0.heap.size w0 w ∧ w.heap = w0.heap) (depL dp40) a0 w0 hR.size (fun j d _ hd => by have := dstL_lt (L := ds40) (B := 166) (by decide) hd; omega)
    (fun i j d _ _ h1 h2 => dstL_inj (by decide) h1 h2) ?_ (fun i j hj => depL_lt (by decide) hj) (depL_ready hdp) hdep ⟨(Below.refl _ _).drew, rfl⟩ ?_
  · intro i V a w hi hb hd hr
    have g0 := (hb 0 (fun j _ => dstL_ne (by decide) j)).trans h0
    have g18 := (hb 18 (fun j _ => dstL_ne (by decide) j)).trans h18
    obtain ⟨k1, k2⟩ := hcell w hr
    have gv : ∀ j ∈ depL dp40 i, ∀ d, dstL ds40 j = some d → a.eval (.tmp d) = Vl40 X S PB j := fun j hj d hjd => ((hd j hj).1 d hjd).trans (hd j hj).2
    have hcases : i = 0 ∨ i = 1 ∨ i = 2 ∨ i = 3 ∨ i = 4 ∨ i = 5 ∨ i = 6 ∨ i = 7 ∨ i = 8 ∨ i = 9 ∨ i = 10 ∨ i = 11 := by omega
    rcases hcases with rfl | rfl | rfl | rfl | rfl | rfl | rfl | rfl | rfl | rfl | rfl | rfl
    · exact opValP hR.o0 (y := Vl40 X S PB 0) (fun o ho => by unfold execOp; simp only [ho, g0, Sem.run_pure]; rfl) ⟨_, rfl, rfl, hr, fun _ _ h => h⟩
    · have e0 := gv 0 (by decide) 157 rfl
      exact opValP hR.o1 (y := Vl40 X S PB 1) (fun o ho => by unfold execOp; simp only [ho]; rw [show a.eval (.tmp 157) = .pointer (some ⟨X, 0, none⟩) from e0]; rfl) ⟨_, rfl, rfl, hr, fun _ _ h => h⟩
    · have e0 := gv 1 (by decide) 158 rfl
      exact opValP hR.o2 (y := Vl40 X S PB 2) (fun o ho => by unfold execOp; simp only [ho]; rw [show a.eval (.tmp 158) = .pointer (some ⟨X, 0, none⟩) from e0]; simp only [Sem.run_bind, run_fa1, Result.andThen_ok, Sem.run_pure]; rfl) ⟨_, rfl, rfl, hr, fun _ _ h => h⟩
    · have e0 := gv 2 (by decide) 159 rfl
      exact opValP hR.o3 (y := Vl40 X S PB 3) (fun o ho => by unfold execOp; simp only [ho]; rw [show a.eval (.tmp 159) = .pointer (some ⟨X, 1, none⟩) from e0]; simp only [Sem.run_bind, run_ld1 k1 _ (.inl rfl), Result.andThen_ok, Sem.run_pure]; rfl) ⟨_, rfl, rfl, hr, fun _ _ h => h⟩
    · exact opValP hR.o4 (y := Vl40 X S PB 4) (fun o ho => by unfold execOp; simp only [ho, g18]; simp only [Sem.run_bind, run_fa2, Result.andThen_ok, Sem.run_pure]; rfl) ⟨_, rfl, rfl, hr, fun _ _ h => h⟩
    · have e0 := gv 4 (by decide) 161 rfl
      exact opValP hR.o5 (y := Vl40 X S PB 5) (fun o ho => by unfold execOp; simp only [ho]; rw [show a.eval (.tmp 161) = .pointer (some ⟨PB, 2, none⟩) from e0]; simp only [Sem.run_bind, run_ld1 k2 _ (.inr (.inl rfl)), Result.andThen_ok, Sem.run_pure]; rfl) ⟨_, rfl, rfl, hr, fun _ _ h => h⟩
    · have e3 := gv 3 (by decide) 160 rfl
      have e5 := gv 5 (by decide) 162 rfl
      refine opCallP hR.o6 (f := 27) (args := #[.pointer (some ⟨S, 0, none⟩), .string (bs [])]) (call_runF (by decide) (by simp only [List.map_toArray, List.map_cons, List.map_nil]; rw [e3, e5]; rfl)) ((hrd w hr.2).mono ?_)
      rintro e w' ⟨rfl, rfl⟩
      exact ⟨_, rfl, _, rfl, rfl, hr, fun _ _ h => h⟩
    · have e0 := gv 6 (by decide) 163 rfl
      exact opValP hR.o7 (y := Vl40 X S PB 7) (fun o ho => by unfold execOp; simp only [ho, e0, Sem.run_pure]; rfl) ⟨_, rfl, rfl, hr, fun _ _ h => h⟩
    · have e0 := gv 7 (by decide) 156 rfl
      exact opValP hR.o8 (y := Vl40 X S PB 8) (fun o ho => by unfold execOp; simp only [ho]; rw [show a.eval (.tmp 156) = .tuple #[.string (bs []), .bool false] from e0]; simp only [Sem.run_bind, run_ex0, Result.andThen_ok, Sem.run_pure]; rfl) ⟨_, rfl, rfl, hr, fun _ _ h => h⟩
    · have e0 := gv 7 (by decide) 156 rfl
      exact opValP hR.o9 (y := Vl40 X S PB 9) (fun o ho => by unfold execOp; simp only [ho]; rw [show a.eval (.tmp 156) = .tuple #[.string (bs []), .bool false] from e0]; simp only [Sem.run_bind, run_ex1, Result.andThen_ok, Sem.run_pure]; rfl) ⟨_, rfl, rfl, hr, fun _ _ h => h⟩
    · have e0 := gv 8 (by decide) 164 rfl
      exact opValP hR.o10 (y := Vl40 X S PB 10) (fun o ho => by unfold execOp; simp only [ho, e0, Sem.run_pure]; rfl) ⟨_, rfl, rfl, hr, fun _ _ h => h⟩
    · have e0 := gv 9 (by decide) 165 rfl
      exact opValP hR.o11 (y := Vl40 X S PB 11) (fun o ho => by unfold execOp; simp only [ho, e0, Sem.run_pure]; rfl) ⟨_, rfl, rfl, hr, fun _ _ h => h⟩
  · intro V w hr hv
    have e : setAl (dstL ds40) V (Array.replicate 12 true) 12 a0 = setAl (dstL ds40) (Vl40 X S PB) (Array.replicate 12 true) 12 a0 := setAl_congr a0 12 (fun _ _ => rfl) (fun j hj _ => hv j hj)
    rw [e]
    exact hQ w hr.1 hr.2
theorem setAl40 (X S PB : Nat) (a0 : Act) : setAl (dstL ds40) (Vl40 X S PB) (Array.replicate 12 true) 12 a0 = (((((((((((a0.put (some 157) (.pointer (some ⟨X, 0, none⟩))).put (some 158) (.pointer (some ⟨X, 0, none⟩))).put (some 159) (.pointer (some ⟨X, 1, none⟩))).put (some 160) (.pointer (some ⟨S, 0, none⟩))).put (some 161) (.pointer (some ⟨PB, 2, none⟩))).put (some 162) (.string (bs []))).put (some 163) (.tuple #[.string (bs []), .bool false])).put (some 156) (.tuple #[.string (bs []), .bool false])).put (some 164) (.string (bs []))).put (some 165) (.bool false)).put (some 24) (.string (bs []))).put (some 25) (.bool false) := rfl

end Go.Proofs.YtheenlomlmbjaaaGreatDoor

namespace Go.Proofs.YtheenlomlmbjaaaGreatDoor
open Go.RowKit Go.Maps

structure R57 (ops : Array Oper) : Prop where
  size : ops.size = 13
  o0 : OpJ ops 0 (some 228) (.load 91 (.tmp 14))
  o1 : OpJ ops 1 (some 229) (.move (.tmp 0))
  o2 : OpJ ops 2 (some 230) (.nilCheck (.tmp 229))
  o3 : OpJ ops 3 (some 231) (.fieldAddr 95 (.tmp 230) 6)
  o4 : OpJ ops 4 (some 232) (.load 3 (.tmp 231))
  o5 : OpJ ops 5 (some 233) (.build 241 #[(0, .const (.int .i64 2)), (3, .tmp 232)])
  o6 : OpJ ops 6 (some 234) (.call { callee := .value (.func 120), args := #[.tmp 228, .tmp 233], argTypes := #[91, 241] })
  o7 : OpJ ops 7 (some 227) (.move (.tmp 234))
  o8 : OpJ ops 8 (some 235) (.extract (.tmp 227) 0)
  o9 : OpJ ops 9 (some 236) (.extract (.tmp 227) 1)
  o10 : OpJ ops 10 (some 31) (.alloc 91)
  o11 : OpJ ops 11 none (.store 91 (.tmp 31) (.tmp 235))
  o12 : OpJ ops 12 (some 32) (.assign (.tmp 236))
def ds57 : List (Option Nat) := [some 228, some 229, some 230, some 231, some 232, some 233, some 234, some 227, some 235, some 236, some 31, none, some 32]
def dp57 : List (List Nat) := [[], [], [1], [2], [3], [4], [0, 5], [6], [7], [7], [], [8, 10], [9]]
def nilM : Value := manV (.slice none 0 0) 0 0
def Vl57 (X : Nat) (mv : Value) (i : Nat) : Value :=
  [mv, .pointer (some ⟨X, 0, none⟩), .pointer (some ⟨X, 0, none⟩), .pointer (some ⟨X, 12, none⟩), .int .i64 0, .agg #[.int .i64 2, .int .i64 0, .int .i64 0, .int .i64 0], .tuple #[nilM, .int .i64 170], .tuple #[nilM, .int .i64 170], nilM, .int .i64 170, undef, undef, .int .i64 170].getD i undef
def StB (N B : Nat) (w : World) : Prop := N ≤ B ∧ ∃ v0 v1 v2 v3 v4 v5 v6 : Value, w.heap[B]? = some (.cells #[v0, v1, v2, v3, v4, v5, v6] 91 (0, 0))
def Pr57 (N X : Nat) (mv : Value) (i : Nat) (v : Value) (w : World) : Prop :=
  if i = 10 then ∃ B, v = .pointer (some ⟨B, 0, none⟩) ∧ StB N B w else if i = 11 then True else v = Vl57 X mv i
theorem Pr57.imp {N X : Nat} {mv : Value} {w w' : World} (h : ∀ B, StB N B w → StB N B w') (i : Nat) (v : Value) (hp : Pr57 N X mv i v w) : Pr57 N X mv i v w' := by
  unfold Pr57 at *
  split at hp
  · rename_i e; rw [if_pos e]; exact hp.imp fun B ⟨h1, h2⟩ => ⟨h1, h B h2⟩
  · rename_i e; rw [if_neg e]; exact hp
theorem StB.below {N B : Nat} {w w' : World} (hb : Below w.heap.size w w') (h : StB N B w) : StB N B w' := by
  obtain ⟨h1, v0, v1, v2, v3, v4, v5, v6, h2⟩ := h
  exact ⟨h1, v0, v1, v2, v3, v4, v5, v6, (hb.block B (lt_of_heap h2)).trans h2⟩
theorem StB.set7 {N B A : Nat} {w : World} (hA : StB N A w) (h : StB N B w) (u0 u1 u2 u3 u4 u5 u6 : Value) : StB N B (set7 w A u0 u1 u2 u3 u4 u5 u6) := by
  by_cases e : B = A
  · subst e
    obtain ⟨h1, v0, v1, v2, v3, v4, v5, v6, h2⟩ := h
    refine ⟨h1, u0, u1, u2, u3, u4, u5, u6, ?_⟩
    unfold Go.Proofs.YtheenlomlmbjaaaGreatDoor.set7
    have h0 := heap_setC (j := 0) (v := u0) h2
    have h1 := heap_setC (j := 1) (v := u1) h0
    have h2 := heap_setC (j := 2) (v := u2) h1
    have h3 := heap_setC (j := 3) (v := u3) h2
    have h4 := heap_setC (j := 4) (v := u4) h3
    have h5 := heap_setC (j := 5) (v := u5) h4
    have h6 := heap_setC (j := 6) (v := u6) h5
    rw [h6]
    rfl
  · obtain ⟨h1, v0, v1, v2, v3, v4, v5, v6, h2⟩ := h
    exact ⟨h1, v0, v1, v2, v3, v4, v5, v6, ((set7_out w A u0 u1 u2 u3 u4 u5 u6).block B (lt_of_heap h2) e).trans h2⟩
theorem run_fa6 (w : World) (X : Nat) : (Instr.fieldAt 95 (.pointer (some ⟨X, 0, none⟩)) 6).run Tryz.prog w = .ok (.pointer (some ⟨X, 12, none⟩)) w := by simp [go_sem]
theorem run_ldM {w : World} {M n : Nat} {u : Value} (h : ManB M u n w) : (Instr.loadAt 91 (.pointer (some ⟨M, 0, none⟩))).run Tryz.prog w = .ok (manV u n 0) w := by
  obtain ⟨m0, m1, m2, m3, m4, m5, m6, -⟩ := h.cells
  unfold manV
  simp [go_sem, Instr.loadAt, Instr.sureAddr, m0, m1, m2, m3, m4, m5, m6]
theorem run_bld (w : World) : (Instr.build 241 #[(0, .int .i64 2), (3, .int .i64 0)]).run Tryz.prog w = .ok (.agg #[.int .i64 2, .int .i64 0, .int .i64 0, .int .i64 0]) w := by
  kernel_rfl
theorem run_alM (w : World) : (Instr.alloc 91 true (.tuple #[])).run Tryz.prog w = .ok (.pointer (some ⟨w.heap.size, 0, none⟩)) (w.alloc (.cells #[.slice none 0 0, .int .i64 0, .int .i64 0, .bool false, .int .i64 0, .int .i64 0, .int .i64 0] 91)) := by
  simp [go_sem]
theorem run_stM {N B : Nat} {w : World} (h : StB N B w) : (Instr.storeAt 91 (.pointer (some ⟨B, 0, none⟩)) nilM).run Tryz.prog w = .ok () (set7 w B (.slice none 0 0) (.int .i64 0) (.int .i64 0) (.bool false) (.int .i64 0) (.int .i64 0) (.int .i64 0)) := by
  obtain ⟨-, v0, v1, v2, v3, v4, v5, v6, h2⟩ := h
  obtain ⟨m0, m1, m2, m3, m4, m5, m6⟩ := st_cells h2
  have f := fun i => Lib.frozen_of_heap h2 i
  unfold nilM manV set7
  simp [go_sem, Instr.storeAt, Instr.sureAddr, m0, m1, m2, m3, m4, m5, m6, f]

theorem opSkipP {P : Program} {ops : Array Oper} {i : Nat} {d : Option Nat} {op : Op} {a : Act} {w w' : World} {K : Act → World → Prop} {Q : Exit → Act → World → Prop} (ho : OpJ ops i d op) (hr : ∀ o : Oper, o.op = op → (execOp a.eval o).run P w = .ok .skip w') (h : K (a.put d undef) w') : wpOp P ops Q i K a w := by
  obtain ⟨o, h1, h2, h3, h4⟩ := ho
  simp only [wpOp, h1]
  rw [if_pos (by simp [Region.wanted, h2])]
  left
  unfold Oper.wp
  rw [hr o h4]
  simp only [Oper.upon]
  rw [h3]; exact h
def V57 (X B : Nat) (mv : Value) (j : Nat) : Value := if j = 10 then .pointer (some ⟨B, 0, none⟩) else Vl57 X mv j
set_option maxRecDepth 100000 in
theorem region57 {ops : Array Oper} (hR : R57 ops) (hdp : ((List.range ops.size).all fun k => ((ops[k]?).map fun o => (depL dp57 k).all fun j => o.after.any fun e => e.on == j && Region.binds .any e).getD true) = true) (hdep : ((List.range ops.size).all fun k => ((ops[k]?).map fun o => o.after.all fun e => !Region.binds .any e || decide (e.on < k)).getD true) = true)
    {id X M n : Nat} {u : Value} {Q : Exit → Act → World → Prop} {a0 : Act} {w0 : World} (hs : 236 < a0.tmps.size) (h0 : a0.eval (.tmp 0) = .pointer (some ⟨X, 0, none⟩)) (h14 : a0.eval (.tmp 14) = .pointer (some ⟨M, 0, none⟩))
    (hM : ManB M u n w0) (c12 : w0.cell? ⟨X, 12, none⟩ = some (.int .i64 0))
    (hap : ∀ W, Below w0.heap.size w0 W → Calls Tryz.prog 120 #[manV u n 0, .agg #[.int .i64 2, .int .i64 0, .int .i64 0, .int .i64 0]] W fun e w' => e = .returned (.tuple #[nilM, .int .i64 170]) ∧ Below W.heap.size W w')
    (hQ : ∀ B w, Below w0.heap.size w0 w → Q .normal (setAl (dstL ds57) (V57 X B (manV u n 0)) (Array.replicate 13 true) 13 a0) w) : (Code.region id ops true).wp Tryz.prog Q a0 w0 := by
  have hXl := World.block_lt_of_cell? w0 _ c12
  obtain ⟨mv, hmv⟩ : ∃ mv, mv = manV u n 0 := ⟨_, rfl⟩
  rw [← hmv] at hap hQ
  refine wp_region_val (by kernel_rfl) (dstL ds57) (Pr57 w0.heap.size X mv) (Below w0.heap.size w0) (depL dp57) a0 w0 hR.size (fun j d _ hd => by have := dstL_lt (L := ds57) (B := 237) (by decide) hd; omega)
    (fun i j d _ _ h1 h2 => dstL_inj (by decide) h1 h2) ?_ (fun i j hj => depL_lt (by decide) hj) (depL_ready hdp) hdep (Below.refl _ _).drew ?_
  · intro i V a w hi hb hd hr
    have g0 := (hb 0 (fun j _ => dstL_ne (by decide) j)).trans h0
    have g14 := (hb 14 (fun j _ => dstL_ne (by decide) j)).trans h14
    have k12 := (hr.cell (p := ⟨X, 12, none⟩) hXl).trans c12
    have kM : ManB M u n w := (hr.block M (lt_of_heap hM)).trans hM
    have gv : ∀ j ∈ depL dp57 i, j ≠ 10 → j ≠ 11 → ∀ d, dstL ds57 j = some d → a.eval (.tmp d) = Vl57 X mv j := fun j hj h1 h2 d hjd => ((hd j hj).1 d hjd).trans (by
      have := (hd j hj).2
      unfold Pr57 at this
      rw [if_neg h1, if_neg h2] at this
      exact this)
    have pr : ∀ j, j ≠ 10 → j ≠ 11 → ∀ w, Pr57 w0.heap.size X mv j (Vl57 X mv j) w := fun j h1 h2 w => by unfold Pr57; rw [if_neg h1, if_neg h2]
    have hcases : i = 0 ∨ i = 1 ∨ i = 2 ∨ i = 3 ∨ i = 4 ∨ i = 5 ∨ i = 6 ∨ i = 7 ∨ i = 8 ∨ i = 9 ∨ i = 10 ∨ i = 11 ∨ i = 12 := by omega
    rcases hcases with rfl | rfl | rfl | rfl | rfl | rfl | rfl | rfl | rfl | rfl | rfl | rfl | rfl
    · exact opValP hR.o0 (y := Vl57 X mv 0) (fun o ho => by unfold execOp; simp only [ho, g14]; simp only [Sem.run_bind, run_ldM kM, Result.andThen_ok, Sem.run_pure]; rw [← hmv]; rfl) ⟨_, rfl, pr 0 (by decide) (by decide) _, hr, fun _ _ h => h⟩
    · exact opValP hR.o1 (y := Vl57 X mv 1) (fun o ho => by unfold execOp; simp only [ho, g0, Sem.run_pure]; rfl) ⟨_, rfl, pr 1 (by decide) (by decide) _, hr, fun _ _ h => h⟩
    · have e0 := gv 1 (by decide) (by decide) (by decide) 229 rfl
      exact opValP hR.o2 (y := Vl57 X mv 2) (fun o ho => by unfold execOp; simp only [ho]; rw [show a.eval (.tmp 229) = .pointer (some ⟨X, 0, none⟩) from e0]; rfl) ⟨_, rfl, pr 2 (by decide) (by decide) _, hr, fun _ _ h => h⟩
    · have e0 := gv 2 (by decide) (by decide) (by decide) 230 rfl
      exact opValP hR.o3 (y := Vl57 X mv 3) (fun o ho => by unfold execOp; simp only [ho]; rw [show a.eval (.tmp 230) = .pointer (some ⟨X, 0, none⟩) from e0]; simp only [Sem.run_bind, run_fa6, Result.andThen_ok, Sem.run_pure]; rfl) ⟨_, rfl, pr 3 (by decide) (by decide) _, hr, fun _ _ h => h⟩
    · have e0 := gv 3 (by decide) (by decide) (by decide) 231 rfl
      exact opValP hR.o4 (y := Vl57 X mv 4) (fun o ho => by unfold execOp; simp only [ho]; rw [show a.eval (.tmp 231) = .pointer (some ⟨X, 12, none⟩) from e0]; simp only [Sem.run_bind, run_ld1 k12 _ (.inr (.inr rfl)), Result.andThen_ok, Sem.run_pure]; rfl) ⟨_, rfl, pr 4 (by decide) (by decide) _, hr, fun _ _ h => h⟩
    · have e0 := gv 4 (by decide) (by decide) (by decide) 232 rfl
      exact opValP hR.o5 (y := Vl57 X mv 5) (fun o ho => by unfold execOp; simp only [ho, List.map_toArray, List.map_cons, List.map_nil]; rw [show a.eval (.tmp 232) = .int .i64 0 from e0, show a.eval (.const (.int .i64 2)) = .int .i64 2 from rfl]; simp only [Sem.run_bind, run_bld, Result.andThen_ok, Sem.run_pure]; rfl) ⟨_, rfl, pr 5 (by decide) (by decide) _, hr, fun _ _ h => h⟩
    · have e0 := gv 0 (by decide) (by decide) (by decide) 228 rfl
      have e5 := gv 5 (by decide) (by decide) (by decide) 233 rfl
      refine opCallP hR.o6 (f := 120) (args := #[mv, .agg #[.int .i64 2, .int .i64 0, .int .i64 0, .int .i64 0]]) (call_runF (by decide) (by simp only [List.map_toArray, List.map_cons, List.map_nil]; rw [e0, e5]; rfl)) ((hap w hr).mono ?_)
      rintro e w' ⟨rfl, hb'⟩
      exact ⟨_, rfl, Vl57 X mv 6, rfl, pr 6 (by decide) (by decide) _, hr.trans (hb'.mono hr.size), Pr57.imp fun B => StB.below hb'⟩
    · have e0 := gv 6 (by decide) (by decide) (by decide) 234 rfl
      exact opValP hR.o7 (y := Vl57 X mv 7) (fun o ho => by unfold execOp; simp only [ho, e0, Sem.run_pure]; rfl) ⟨_, rfl, pr 7 (by decide) (by decide) _, hr, fun _ _ h => h⟩
    · have e0 := gv 7 (by decide) (by decide) (by decide) 227 rfl
      exact opValP hR.o8 (y := Vl57 X mv 8) (fun o ho => by unfold execOp; simp only [ho]; rw [show a.eval (.tmp 227) = .tuple #[nilM, .int .i64 170] from e0]; simp only [Sem.run_bind, run_ex0, Result.andThen_ok, Sem.run_pure]; rfl) ⟨_, rfl, pr 8 (by decide) (by decide) _, hr, fun _ _ h => h⟩
    · have e0 := gv 7 (by decide) (by decide) (by decide) 227 rfl
      exact opValP hR.o9 (y := Vl57 X mv 9) (fun o ho => by unfold execOp; simp only [ho]; rw [show a.eval (.tmp 227) = .tuple #[nilM, .int .i64 170] from e0]; simp only [Sem.run_bind, run_ex1, Result.andThen_ok, Sem.run_pure]; rfl) ⟨_, rfl, pr 9 (by decide) (by decide) _, hr, fun _ _ h => h⟩
    · refine opValP hR.o10 (w' := w.alloc (.cells #[.slice none 0 0, .int .i64 0, .int .i64 0, .bool false, .int .i64 0, .int .i64 0, .int .i64 0] 91)) (y := .pointer (some ⟨w.heap.size, 0, none⟩)) (fun o ho => by unfold execOp; simp only [ho]; simp only [Sem.run_bind, run_alM, Result.andThen_ok, Sem.run_pure]) ⟨_, rfl, ?_, hr.alloc hr.size _, Pr57.imp fun B => StB.below ((Below.refl _ _).alloc (Nat.le_refl _) _)⟩
      unfold Pr57
      rw [if_pos rfl]
      exact ⟨_, rfl, hr.size, _, _, _, _, _, _, _, heap_alloc_new ..⟩
    · have e8 := gv 8 (by decide) (by decide) (by decide) 235 rfl
      obtain ⟨e10, p10⟩ := hd 10 (by decide)
      have e10' := e10 31 rfl
      unfold Pr57 at p10
      rw [if_pos rfl] at p10
      obtain ⟨B, hB, hS⟩ := p10
      rw [hB] at e10'
      refine opSkipP hR.o11 (w' := set7 w B (.slice none 0 0) (.int .i64 0) (.int .i64 0) (.bool false) (.int .i64 0) (.int .i64 0) (.int .i64 0)) (fun o ho => by unfold execOp; simp only [ho, e10']; rw [show a.eval (.tmp 235) = nilM from e8]; simp only [Sem.run_bind, run_stM hS, Result.andThen_ok, Sem.run_pure]) ⟨undef, rfl, ?_, set7_below hr hS.1 .., Pr57.imp fun B' h => StB.set7 hS h ..⟩
      unfold Pr57
      rw [if_neg (by decide), if_pos rfl]
      trivial
    · have e0 := gv 9 (by decide) (by decide) (by decide) 236 rfl
      exact opValP hR.o12 (y := Vl57 X mv 12) (fun o ho => by unfold execOp; simp only [ho, e0, Sem.run_pure]; rfl) ⟨_, rfl, pr 12 (by decide) (by decide) _, hr, fun _ _ h => h⟩
  · intro V w hr hv
    have h10 := hv 10 (by decide)
    unfold Pr57 at h10
    rw [if_pos rfl] at h10
    obtain ⟨B, hB, -⟩ := h10
    have e : setAl (dstL ds57) V (Array.replicate 13 true) 13 a0 = setAl (dstL ds57) (V57 X B mv) (Array.replicate 13 true) 13 a0 := by
      have h11 : ∀ V V' : Nat → Value, (∀ j, j < 13 → j ≠ 11 → V j = V' j) → setAl (dstL ds57) V (Array.replicate 13 true) 13 a0 = setAl (dstL ds57) V' (Array.replicate 13 true) 13 a0 := fun V V' h => by
        have e1 : setAl (dstL ds57) V (Array.replicate 13 true) 13 a0 = ((((((((((((a0.put (some 228) (V 0)).put (some 229) (V 1)).put (some 230) (V 2)).put (some 231) (V 3)).put (some 232) (V 4)).put (some 233) (V 5)).put (some 234) (V 6)).put (some 227) (V 7)).put (some 235) (V 8)).put (some 236) (V 9)).put (some 31) (V 10)).put (some 32) (V 12)) := rfl
        have e2 : setAl (dstL ds57) V' (Array.replicate 13 true) 13 a0 = ((((((((((((a0.put (some 228) (V' 0)).put (some 229) (V' 1)).put (some 230) (V' 2)).put (some 231) (V' 3)).put (some 232) (V' 4)).put (some 233) (V' 5)).put (some 234) (V' 6)).put (some 227) (V' 7)).put (some 235) (V' 8)).put (some 236) (V' 9)).put (some 31) (V' 10)).put (some 32) (V' 12)) := rfl
        rw [e1, e2, h 0, h 1, h 2, h 3, h 4, h 5, h 6, h 7, h 8, h 9, h 10, h 12] <;> decide
      refine h11 V _ fun j hj h => ?_
      unfold V57
      by_cases e : j = 10
      · subst e; rw [if_pos rfl]; exact hB
      · rw [if_neg e]
        have := hv j hj
        unfold Pr57 at this
        rw [if_neg e, if_neg h] at this
        exact this
    rw [e]
    exact hQ B w hr
theorem setAl57 (X B : Nat) (mv : Value) (a0 : Act) : setAl (dstL ds57) (V57 X B mv) (Array.replicate 13 true) 13 a0 = ((((((((((((a0.put (some 228) mv).put (some 229) (.pointer (some ⟨X, 0, none⟩))).put (some 230) (.pointer (some ⟨X, 0, none⟩))).put (some 231) (.pointer (some ⟨X, 12, none⟩))).put (some 232) (.int .i64 0)).put (some 233) (.agg #[.int .i64 2, .int .i64 0, .int .i64 0, .int .i64 0])).put (some 234) (.tuple #[nilM, .int .i64 170])).put (some 227) (.tuple #[nilM, .int .i64 170])).put (some 235) nilM).put (some 236) (.int .i64 170)).put (some 31) (.pointer (some ⟨B, 0, none⟩))).put (some 32) (.int .i64 170)) := rfl

end Go.Proofs.YtheenlomlmbjaaaGreatDoor
